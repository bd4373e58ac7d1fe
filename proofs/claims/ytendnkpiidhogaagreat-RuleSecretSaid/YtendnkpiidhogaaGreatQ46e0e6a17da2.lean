/- RuleSecret: for every template, every two values and every list of types the law answers true and leaves its arguments as they were. No condition. Made: any object with a value that is created. baileylaw18.begun: one object is made: true. baileylaw18.cut. Lists that are alike but for a hidden value of one length: what is laid, reckoned and told of them is alike. Plain. Made, of any template that holds a value. Plain: what is made of two templates that differ in a value alone. Of a sensitive or not extractable key no attribute that is told hangs on its secret ones. Arguments opened: bytes and lists of attributes that came in, as the walks want them. Arguments opened: slices of numbers and of lists of attributes. -/
import Derived.Test.YtendnkpiidhogaaGreatQf49e7706725d
import Derived.Lib.SliceRun
import Derived.ProofKit
import Derived.OpenShut
import Derived.ShutString
import Derived.ChangeOld
import Derived.ChangeSame
import Derived.Deep.Slices
import Derived.Deep.Fields
import Derived.SizedLaws
import Derived.Lib.SmallJoins
namespace Go.Proofs.YtendnkpiidhogaaGreat.At
open Go.RowKit Go.Shelf

attribute [local go_sem] Oper.semAt_some

def MadeR (cl ky : Int) (R : Option Attrs) (l : Attrs) (rv : Int) : Prop :=
 (R = none ∧ l = [] ∧ rv = 208) ∨ ∃ o, R = some o ∧ ((l = [] ∧ rv = 19 ∧ (cl = 4 → ky = 31 → ((seek o 17).getD []).length ≠ 16)) ∨ (l = reckOf o ∧ rv = 0))

structure FixG (cl ky : Int) (w : World) (s b : Nat) (Aj : Option Addr) (cj : Nat) (all : Attrs) (X : World) : Prop where
 r0 : X.heap[s]? = some (.cells #[.slice none 0 0] 24 (0, 0))
 r1 : X.heap[s + 1]? = some (.cells #[.int .i64 0] 27 (0, 0))
 cl : X.heap[s + 2]? = some (.cells #[.int .i64 cl] 3 (0, 0))
 ky : X.heap[s + 3]? = some (.cells #[.int .i64 ky] 3 (0, 0))
 al : X.heap[b]? = some (.cells #[.slice Aj all.length cj] 24 (0, 0))
 ra : RA X (fun q => q < b) Aj cj all
 bw : Below s w X
theorem FixG.grown {cl ky : Int} {w : World} {s b : Nat} {Aj : Option Addr} {cj : Nat} {all : Attrs} {X X' : World} {row : Option Nat} (h : FixG cl ky w s b Aj cj all X) (hsw : s ≤ w.heap.size) (hg : X.grownBy X' row) (hr : ∀ r, row = some r → b < r ∧ ∃ o : Obj, X.heap[r]? = some o ∧ o.isCells = false) (hsb : s ≤ b) : FixG cl ky w s b Aj cj all X' :=
 have hr' : ∀ r, row = some r → ∃ o : Obj, X.heap[r]? = some o ∧ o.isCells = false := fun r e => (hr r e).2
 ⟨(grownBy_keeps_cells hg hr' h.r0 rfl).trans h.r0, (grownBy_keeps_cells hg hr' h.r1 rfl).trans h.r1, (grownBy_keeps_cells hg hr' h.cl rfl).trans h.cl, (grownBy_keeps_cells hg hr' h.ky rfl).trans h.ky, (grownBy_keeps_cells hg hr' h.al rfl).trans h.al, RA.grown h.ra hg hr', h.bw.grown hg (Nat.le_trans hsw h.bw.size) (fun k e => by have := (hr k e).1; omega)⟩
theorem FixG.below {cl ky : Int} {w : World} {s b : Nat} {Aj : Option Addr} {cj : Nat} {all : Attrs} {X X' : World} (h : FixG cl ky w s b Aj cj all X) (hB : Below (b + 1) X X') (hsb : s + 3 < b) : FixG cl ky w s b Aj cj all X' :=
 ⟨(hB.block _ (by omega)).trans h.r0, (hB.block _ (by omega)).trans h.r1, (hB.block _ (by omega)).trans h.cl, (hB.block _ (by omega)).trans h.ky, (hB.block _ (by omega)).trans h.al, h.ra.below hB (fun q hq => by omega), h.bw.trans (hB.mono (by omega))⟩

def LayG (cl ky : Int) (w : World) (s b : Nat) (Aj : Option Addr) (cj : Nat) (all : Attrs) (R : Option Attrs) (k : Nat) (X : World) : Prop :=
 ∃ (out : Attrs) (A : Option Addr) (c : Nat) (cs : List Value), X.heap[b + 1]? = some (.cells #[.slice A out.length c] 24 (0, 0)) ∧ OA X (b + 2) A c out cs ∧ layOn cl ky all out (tys.drop k) = R ∧ out.length ≤ k ∧ FixG cl ky w s b Aj cj all X
theorem lay_endG {cl ky : Int} {w Xc w9 : World} {s b : Nat} {Aj A6 A2 A9 : Option Addr} {cj c6 c2 c9 : Nat} {all out : Attrs} {R : Option Attrs} {cs : List Value} {k n : Nat} {t : Int} {v : List Nat} (hO : OA Xc (b + 2) A6 c6 out cs) (hF : FixG cl ky w s b Aj cj all Xc) (hsb : s + 3 < b) (hbx : Xc.heap[b + 1]? = some (.cells #[.slice A6 out.length c6] 24 (0, 0))) (hlen : out.length ≤ k)
 (hlay : layOn cl ky all (out ++ [(t, v)]) (tys.drop (k + 1)) = R) (hn : v.length = n) (hz : b + 2 ≤ Xc.heap.size) (hu : RB Xc (fun q => b + 2 ≤ q ∧ q < Xc.heap.size ∧ (Value.slice A6 out.length c6).ownBlock ≠ some q) A2 c2 v)
 (hown : w9.ownsRow (b + 2) 37 2 (.slice A9 (out.length + 1) c9) (out.length + 1) (cs ++ [.int .i64 t, .slice A2 n c2])) (hg : Xc.grownBy w9 (Value.slice A6 out.length c6).ownBlock)
 (hor : (Value.slice A9 (out.length + 1) c9).ownBlock = (Value.slice A6 out.length c6).ownBlock ∨ (Value.slice A9 (out.length + 1) c9).ownBlock = some Xc.heap.size) :
 (w9.heap[b + 1]? = some (.cells #[.slice A6 out.length c6] 24 (0, 0))) ∧ LayG cl ky w s b Aj cj all R (k + 1) (w9.setCell ⟨b + 1, 0, none⟩ (.slice A9 (out.length + 1) c9)) ∧ Keeps (b + 2) (b + 2 + 2) 0 Xc (w9.setCell ⟨b + 1, 0, none⟩ (.slice A9 (out.length + 1) c9)) := by
 have hB : Below (b + 2) Xc w9 := (Below.refl (b + 2) Xc).grown hg hz (fun r e => (own_cells hO.1 e).1)
 have hbx9 := (hB.block (b + 1) (by omega)).trans hbx
 have hB1 : Below (b + 1) Xc (w9.setCell ⟨b + 1, 0, none⟩ (.slice A9 (out.length + 1) c9)) := (show Below (b + 1) Xc w9 from hB.mono (by omega)).setCell (p := ⟨b + 1, 0, none⟩) (Nat.le_refl _) _
 refine ⟨hbx9, ⟨out ++ [(t, v)], A9, c9, _, ?_, (OA.snoc2 hO rfl hn hu hown hg hor).put0 (p := ⟨b + 1, 0, none⟩) (by simp) _, hlay, by simp; omega, hF.below hB1 hsb⟩, ?_⟩
 · have := bset hbx9 0 (.slice A9 (out.length + 1) c9)
   simpa using this
 · exact (keepsG0 hg (fun r e => (own_cells hO.1 e).2)).trans (Keeps.setCell _ _ 0 _ (by show b + 1 < _ ∨ _; omega) _)
theorem lay_sameG {cl ky : Int} {w : World} {s b : Nat} {Aj : Option Addr} {cj : Nat} {all : Attrs} {R : Option Attrs} (hsw : s ≤ w.heap.size) (hsb : s + 3 < b) : OwnFrom (b + 2) (LayG cl ky w s b Aj cj all R) := by
 rintro k X X' row ⟨out, A, c, cs, hbx, hO, hl, hn, hF⟩ hg hr
 have hr' : ∀ r, row = some r → ∃ o : Obj, X.heap[r]? = some o ∧ o.isCells = false := fun r e => (hr r e).2
 exact ⟨out, A, c, cs, (grownBy_keeps_cells hg hr' hbx rfl).trans hbx, OA.grown hO hg hr', hl, hn, hF.grown hsw hg (fun r e => ⟨by have := (hr r e).1; omega, (hr r e).2⟩) (by omega)⟩
theorem lay_stepG {cl ky : Int} {all out : Attrs} {R : Option Attrs} {k : Nat} (hk : k < cnt 386) (h : layOn cl ky all out (tys.drop k) = R) :
 (hasOf cl ky (tyAt k) = false → layOn cl ky all out (tys.drop (k + 1)) = R) ∧ (hasOf cl ky (tyAt k) = true → (∀ bs, seek all (tyAt k) = some bs → layOn cl ky all (out ++ [((tyAt k : Int), bs)]) (tys.drop (k + 1)) = R) ∧
  (seek all (tyAt k) = none → (mustOf cl (tyAt k) = true → R = none) ∧ (mustOf cl (tyAt k) = false → layOn cl ky all (out ++ [standardOf cl (tyAt k)]) (tys.drop (k + 1)) = R))) := by
 rw [tys_get hk, layOn] at h
 refine ⟨fun e => by simpa [e] using h, fun e => ⟨fun bs hs => by simpa [e, hs] using h, fun hs => ?_⟩⟩
 rw [e, hs] at h
 exact ⟨fun hm => by simpa [hm] using h.symm, fun hm => by simpa [hm] using h⟩

set_option maxRecDepth 100000 in
set_option maxHeartbeats 8000000 in
theorem made_core (P : Nat → Prop) (A : Option Addr) (c : Nat) (t all : Attrs) (cl ky : Int) (R : Option Attrs) (w : World) (hv : RA w P A c t) (hP : ∀ b, P b → b < w.heap.size) (htl : t.length ≤ 1000)
 (hck : checkOf 1 t (-1) 0 = 0) (hk : kindsOf t (-1) 0 = (cl, ky, 0)) (hj : joinedOf t [] = some all) (hR : layOn cl ky all [] tys = R) (hk17 : Kind17 cl ky) (hsh : ∀ o, R = some o → Short o) :
 Calls Tryz.prog 20 #[.int .i64 1, .slice A t.length c, .slice none 0 0, .slice none 0 0] w fun e w' => (∃ A1 c1 l rv, e = .returned (.tuple #[.slice A1 l.length c1, .int .i64 rv]) ∧ RA w' (fun b => b < w'.heap.size) A1 c1 l ∧ MadeR cl ky R l rv) ∧ Below w.heap.size w w' := by
 refine (callsIn_wide (n := 6)).1 ?_
 refine callsIn_of_wp_marks Tryz.func20 rfl trivial ?_ rfl
 simp only [Tryz.ntmps20, List.size_toArray, List.length_cons, List.length_nil, Nat.reduceAdd, Nat.reduceSub, Array.replicate_succ, Array.replicate_zero, List.push_toArray, List.append_toArray, List.nil_append, List.cons_append]
 have HCK := Lib.hid (fun (X : World) (hX : Below w.heap.size w X) => check_any P A c t 1 (-1) 0 X (hv.below hX hP) (fun b hb => Nat.lt_of_lt_of_le (hP b hb) hX.size))
 have HKI := Lib.hid (fun (X : World) (hX : Below w.heap.size w X) => kinds_any P A c t (-1) 0 X (hv.below hX hP) (fun b hb => Nat.lt_of_lt_of_le (hP b hb) hX.size))
 have HJO := Lib.hid (fun (X : World) (hX : Below w.heap.size w X) => joined_any P (fun _ => False) A none c 0 t [] X (hv.below hX hP) (fun b hb => Nat.lt_of_lt_of_le (hP b hb) hX.size) (RA.nil_ _ _) (fun _ h => h.elim) htl (by simp))
 have Hck := Lib.hid hck
 have Hk := Lib.hid hk
 have Hj := Lib.hid hj
 have HR := Lib.hid hR
 have Hsh := Lib.hid hsh
 clear hv hP htl hck hk hj hR hsh
 obtain ⟨h0, h1, h2, h3, hz, hB⟩ := four_at w (.cells #[.slice none 0 0] 24) (.cells #[.int .i64 0] 27) (.cells #[.int .i64 (-1)] 3) (.cells #[.int .i64 0] 3)
 obtain ⟨s, hs⟩ : ∃ s, w.heap.size = s := ⟨_, rfl⟩
 have Hs := Lib.hid hs
 have hsw : s ≤ w.heap.size := by omega
 rw [hs] at h0 h1 h2 h3 hz hB HCK HKI HJO
 clear hs
 gi_wp2
 rw [Hs.out]
 simp only [Nat.add_assoc, Nat.reduceAdd]
 generalize (((w.alloc (.cells #[.slice none 0 0] 24)).alloc (.cells #[.int .i64 0] 27)).alloc (.cells #[.int .i64 (-1)] 3)).alloc (.cells #[.int .i64 0] 3) = W0 at *
 refine ⟨trivial, (callsIn_wide.2 (HCK.out W0 hB)).mono ?_⟩
 rw [Hck.out]
 rintro e W1 ⟨rfl, hB1⟩
 have hz1 := hB1.size
 have H0 := Lib.hid ((hB1.block s (by omega)).trans h0)
 have H1 := Lib.hid ((hB1.block (s + 1) (by omega)).trans h1)
 have H2 := Lib.hid ((hB1.block (s + 2) (by omega)).trans h2)
 have H3 := Lib.hid ((hB1.block (s + 3) (by omega)).trans h3)
 have HB1 := Lib.hid (hB.trans (hB1.mono (by omega)))
 have hs4 : s + 4 ≤ W1.heap.size := by omega
 have c2 := blk_cell H2.out 0
 have c3 := blk_cell H3.out 0
 simp only [List.getElem?_toArray, List.getElem?_cons_zero] at c2 c3
 clear h0 h1 h2 h3 hz hB hB1 hz1
 gi_wp2
 refine ⟨trivial, (callsIn_wide.2 (HKI.out W1 HB1.out)).mono ?_⟩
 rw [Hk.out]
 rintro e W2 ⟨rfl, hB2⟩
 have h0 := (hB2.block s (by omega)).trans H0.out
 have h1 := (hB2.block (s + 1) (by omega)).trans H1.out
 have h2 := (hB2.block (s + 2) (by omega)).trans H2.out
 have h3 := (hB2.block (s + 3) (by omega)).trans H3.out
 have d2 := blk_cell h2 0
 have d3 := blk_cell h3 0
 have e2 := blk_free h2 0
 have e3 := blk_free h3 0
 simp only [List.getElem?_toArray, List.getElem?_cons_zero] at d2 d3
 have g2 : ((W2.setCell ⟨s + 2, 0, none⟩ (.int .i64 cl)).setCell ⟨s + 3, 0, none⟩ (.int .i64 ky)).heap[s + 2]? = some (.cells #[.int .i64 cl] 3 (0, 0)) := (Below.heap_setCell _ ⟨s + 3, 0, none⟩ _ (s + 2) (show s + 2 ≠ s + 3 by omega)).trans (by simpa using bset h2 0 (.int .i64 cl))
 have g3 : ((W2.setCell ⟨s + 2, 0, none⟩ (.int .i64 cl)).setCell ⟨s + 3, 0, none⟩ (.int .i64 ky)).heap[s + 3]? = some (.cells #[.int .i64 ky] 3 (0, 0)) := by
  have := (Below.heap_setCell W2 ⟨s + 2, 0, none⟩ (.int .i64 cl) (s + 3) (show s + 3 ≠ s + 2 by omega)).trans h3
  simpa using bset this 0 (.int .i64 ky)
 have g0 : ((W2.setCell ⟨s + 2, 0, none⟩ (.int .i64 cl)).setCell ⟨s + 3, 0, none⟩ (.int .i64 ky)).heap[s]? = some (.cells #[.slice none 0 0] 24 (0, 0)) := (Below.heap_setCell _ ⟨s + 3, 0, none⟩ _ s (show s ≠ s + 3 by omega)).trans ((Below.heap_setCell _ ⟨s + 2, 0, none⟩ _ s (show s ≠ s + 2 by omega)).trans h0)
 have g1 : ((W2.setCell ⟨s + 2, 0, none⟩ (.int .i64 cl)).setCell ⟨s + 3, 0, none⟩ (.int .i64 ky)).heap[s + 1]? = some (.cells #[.int .i64 0] 27 (0, 0)) := (Below.heap_setCell _ ⟨s + 3, 0, none⟩ _ (s + 1) (show s + 1 ≠ s + 3 by omega)).trans ((Below.heap_setCell _ ⟨s + 2, 0, none⟩ _ (s + 1) (show s + 1 ≠ s + 2 by omega)).trans h1)
 have hz2 : s + 4 ≤ ((W2.setCell ⟨s + 2, 0, none⟩ (.int .i64 cl)).setCell ⟨s + 3, 0, none⟩ (.int .i64 ky)).heap.size := by have := hB2.size; simp; omega
 have hB3 : Below s w ((W2.setCell ⟨s + 2, 0, none⟩ (.int .i64 cl)).setCell ⟨s + 3, 0, none⟩ (.int .i64 ky)) := ((HB1.out.trans (hB2.mono (by omega))).setCell (p := ⟨s + 2, 0, none⟩) (by simp) _).setCell (p := ⟨s + 3, 0, none⟩) (by simp) _
 have G0 := Lib.hid g0
 have G1 := Lib.hid g1
 have G2 := Lib.hid g2
 have G3 := Lib.hid g3
 have HB3 := Lib.hid hB3
 clear h0 h1 h2 h3 g0 g1 g2 g3 hB3 hB2 H0 H1 H2 H3 c2 c3
 gi_wp2
 generalize (W2.setCell ⟨s + 2, 0, none⟩ (.int .i64 cl)).setCell ⟨s + 3, 0, none⟩ (.int .i64 ky) = W3 at *
 refine ⟨trivial, (callsIn_wide.2 (HJO.out W3 HB3.out)).mono ?_⟩
 rw [Hj.out]
 rintro e W4 ⟨⟨Aj, cj, rfl, hra⟩, hB4⟩
 have hz4 := hB4.size
 obtain ⟨b, hb⟩ : ∃ b, W4.heap.size = b := ⟨_, rfl⟩
 have hsb : s + 3 < b := by omega
 have f0 := (hB4.block s (by omega)).trans G0.out
 have f1 := (hB4.block (s + 1) (by omega)).trans G1.out
 have f2 := (hB4.block (s + 2) (by omega)).trans G2.out
 have f3 := (hB4.block (s + 3) (by omega)).trans G3.out
 have hB5 := HB3.out.trans (hB4.mono (by have := HB3.out.size; omega))
 have hBA : Below b W4 ((W4.alloc (.cells #[.slice Aj all.length cj] 24)).alloc (.cells #[.slice none 0 0] 24)) := ((Below.refl b W4).alloc (by omega) _).alloc (by simp; omega) _
 have f4 : ((W4.alloc (.cells #[.slice Aj all.length cj] 24)).alloc (.cells #[.slice none 0 0] 24)).heap[b]? = some (.cells #[.slice Aj all.length cj] 24 (0, 0)) := (Below.heap_alloc _ _ _ (by simp; omega)).trans (by rw [← hb]; exact heap_alloc_new W4 _)
 have f5 : ((W4.alloc (.cells #[.slice Aj all.length cj] 24)).alloc (.cells #[.slice none 0 0] 24)).heap[b + 1]? = some (.cells #[.slice none 0 0] 24 (0, 0)) := by
  have := heap_alloc_new (W4.alloc (.cells #[.slice Aj all.length cj] 24)) (.cells #[.slice none 0 0] 24); simpa [hb] using this
 have f6 : ((W4.alloc (.cells #[.slice Aj all.length cj] 24)).alloc (.cells #[.slice none 0 0] 24)).heap.size = b + 2 := by simp; omega
 have hF : FixG cl ky w s b Aj cj all ((W4.alloc (.cells #[.slice Aj all.length cj] 24)).alloc (.cells #[.slice none 0 0] 24)) :=
  ⟨(hBA.block _ (by omega)).trans f0, (hBA.block _ (by omega)).trans f1, (hBA.block _ (by omega)).trans f2, (hBA.block _ (by omega)).trans f3, f4, (hra.mono (P' := fun q => q < b) fun q hq => by have := hq.2; omega).below hBA fun q hq => hq, hB5.trans (hBA.mono (by omega))⟩
 have Hb := Lib.hid hb
 have HF := Lib.hid hF
 have H5 := Lib.hid f5
 have H6 := Lib.hid f6
 clear f0 f1 f2 f3 f4 f5 f6 hF hb hra hB4 hB5 hBA G0 G1 G2 G3 HB3 hz4
 gi_wp2
 rw [Hb.out]
 generalize (W4.alloc (.cells #[.slice Aj all.length cj] 24)).alloc (.cells #[.slice none 0 0] 24) = W5 at *
 refine ⟨trivial, (callsIn_wide.2 (types_any W5)).mono ?_⟩
 rintro e W5' ⟨rfl, rfl⟩
 gi_wp2
 have hI : OwnFrom W5.heap.size (LayG cl ky w s b Aj cj all R) := by rw [H6.out]; exact lay_sameG hsw hsb
 have HI := Lib.hid hI
 have h0 : LayG cl ky w s b Aj cj all R 0 W5 := ⟨[], none, 0, [], H5.out, OA.nil_ _ _, by simpa using HR.out, by simp, HF.out⟩
 have Hh0 := Lib.hid h0
 clear hI h0
 refine' wpIn_iter (by omega) (gf := 87) (lb := #[]) rfl (enters_of Tryz.func87 (by kernel_rfl) rfl)
  (types_seq W5) (fun _ _ => trivial) (fun _ _ _ _ _ _ _ _ => trivial) tplain_keeps (Below.refl _ _) (fun _ => rfl)
  (LayG cl ky w s b Aj cj all R) (LayG cl ky w s b Aj cj all R) (fun cd _ W => (cd = .ret ∧ W.heap[s]? = some (.cells #[.slice none 0 0] 24 (0, 0)) ∧ W.heap[s + 1]? = some (.cells #[.int .i64 208] 27 (0, 0)) ∧ R = none) ∧ Below s w W) HI.out HI.out ?hIx
  (fun _ _ _ _ => trivial) (fun B k W1 W2 _ _ hi ht => ownFrom_plain HI.out hi ht) (fun h => by cases h) Hh0.out _ ?assign ?body ?done ?stop
 case hIx =>
  intro cd
  rintro k X X' row ⟨⟨h1, h2, h3, h4⟩, h5⟩ hg hr
  have hr' : ∀ r, row = some r → ∃ o : Obj, X.heap[r]? = some o ∧ o.isCells = false := fun r e => (hr r e).2
  exact ⟨⟨h1, (grownBy_keeps_cells hg hr' h2 rfl).trans h2, (grownBy_keeps_cells hg hr' h3 rfl).trans h3, h4⟩, h5.grown hg (Nat.le_trans hsw h5.size) (fun k e => by have := (hr k e).1; rw [H6.out] at this; omega)⟩
 case assign =>
  intro l k X K hK
  gi_wp2
  exact hK
 case stop =>
  rintro D cd k X hD _ _ ⟨⟨rfl, h0, h1, hRn⟩, hB⟩ hK
  have c0 := blk_cell h0 0
  have c1 := blk_cell h1 0
  simp only [List.getElem?_toArray, List.getElem?_cons_zero] at c0 c1
  gi_wp2
  have hr' : ∀ r, some D = some r → ∃ o : Obj, X.heap[r]? = some o ∧ o.isCells = false := fun r e => by cases e; exact ⟨_, hK, rfl⟩
  have u0 := cell_kept c0 (grownBy_putObj' X D (.deferred none)) hr'
  have u1 := cell_kept c1 (grownBy_putObj' X D (.deferred none)) hr'
  refine ⟨by simp, .inl ⟨_, _, rfl, run_takeDeferred hK, .tuple #[.slice none 0 0, .int .i64 208], ?_, ⟨none, 0, [], 208, rfl, RA.nil_ _ _, .inl ⟨hRn, rfl, rfl⟩⟩, ?_⟩⟩
  · simp [results, Tryz.f20, go_sem, u0, u1]
  · rw [Hs.out]
    exact hB.grown (grownBy_putObj' X D (.deferred none)) (Nat.le_trans hsw hB.size) (fun r e => by cases e; have := H6.out; omega)
 case body =>
  rintro l' k X ⟨out, A6, c6, cs, hbx, hO, hlay, hlen, hF⟩ hlt hm
  rw [H6.out] at hm
  rw [H6.out]
  obtain ⟨i1, hj, hy0, hy1, hy2⟩ := info_parts info48
  have HJ := Lib.hid hj
  obtain ⟨ty, hty⟩ : ∃ ty : Int, (tyAt k : Int) = ty := ⟨_, rfl⟩
  have hst := lay_stepG hlt hlay
  have hk386 : k < 400 := Nat.lt_trans hlt (by decide)
  rw [hty] at hst ⊢
  have c2 := blk_cell hF.cl 0
  have c3 := blk_cell hF.ky 0
  simp only [List.getElem?_toArray, List.getElem?_cons_zero] at c2 c3
  obtain ⟨hv, hhe⟩ : ∃ y, hasOf cl ky ty = y := ⟨_, rfl⟩
  obtain ⟨o, ho⟩ : ∃ o, seek all ty = o := ⟨_, rfl⟩
  have Hh := Lib.hid (has_any cl ky ty X)
  rw [hhe] at hst Hh
  rw [ho] at hst
  have Ho := Lib.hid ho
  have Hst := Lib.hid hst
  have HO := Lib.hid hO
  have HFx := Lib.hid hF
  have Hbx := Lib.hid hbx
  clear hst hO hF hbx hlay hhe ho hty hj hlt
  gi_wp2
  refine ⟨trivial, (callsIn_wide.2 Hh.out).mono ?_⟩
  rintro e X1 ⟨rfl, hB1⟩
  have hs1 := hB1.size
  have HF1 := Lib.hid (HFx.out.below (hB1.mono (by omega)) hsb)
  have HO1 := Lib.hid (HO.out.below hB1)
  have Hbx1 := Lib.hid ((hB1.block (b + 1) (by omega)).trans Hbx.out)
  have HK1 := Lib.hid (Keeps.below (B := b + 2) (C := b + 2 + 2) (m := 0) hB1 (Nat.le_refl _))
  clear hB1 c2 c3 HO HFx Hbx
  cases hv
  · gi_wp2
    exact ⟨HK1.out, trivial, out, A6, c6, cs, Hbx1.out, HO1.out, Hst.out.1 (by trivial), by omega, HF1.out⟩
  have Hst2 := Lib.hid (Hst.out.2 (by trivial))
  clear Hst
  have a0 := blk_cell HF1.out.al 0
  simp only [List.getElem?_toArray, List.getElem?_cons_zero] at a0
  have hg := get_any (fun q => q < b) Aj cj all ty X1 HF1.out.ra (fun q hq => by omega)
  rw [Ho.out] at hg
  have HG := Lib.hid hg
  clear hg
  gi_wp2
  refine ⟨trivial, (callsIn_wide.2 HG.out).mono ?_⟩
  rintro e X2 ⟨A2, c2', rfl, hr2, hB2⟩
  have hs2 := hB2.size
  have HF2 := Lib.hid (HF1.out.below (hB2.mono (by omega)) hsb)
  have hlt1 := fun g e => (HO1.out.1.lt g e).2
  have HLT := Lib.hid hlt1
  have HO2 := Lib.hid (HO1.out.below hB2)
  have Hbx2 := Lib.hid ((hB2.block (b + 1) (by omega)).trans Hbx1.out)
  have HK2 := Lib.hid (HK1.out.trans (Keeps.below (B := b + 2) (C := b + 2 + 2) (m := 0) hB2 (Nat.le_refl _)))
  have Hr2 := Lib.hid hr2
  have x0 := blk_cell Hbx2.out 0
  have x2 := blk_cell HF2.out.cl 0
  simp only [List.getElem?_toArray, List.getElem?_cons_zero] at x0 x2
  clear hlt1 hr2 hB2 HF1 HO1 Hbx1 HG HK1 a0
  cases o with
  | some bs =>
   have Hlay := Lib.hid (Hst2.out.1 bs (by trivial))
   clear Hst2 x2
   gi_upto_region 19 with fail
   refine Par.region_txt_in 5 [0, 0, 0, 6, 14, 31, 63] [] (fun j f X => match j with
    | 0 => f 0 = .slice A6 out.length c6
    | 1 => f 1 = .int .i64 ty
    | 2 => f 2 = .slice A2 bs.length c2'
    | 3 => f 3 = .agg #[.int .i64 ty, .slice A2 bs.length c2']
    | 4 => ∃ b7, f 4 = .slice (some ⟨b7, 0, none⟩) 1 1 ∧ RS X (fun q => q < X.heap.size) 2 (some ⟨b7, 0, none⟩) 1 1 [.int .i64 ty, .slice A2 bs.length c2']
    | _ => True) (by kernel_rfl) [(71, 0), (72, 1), (73, 2), (74, 3), (75, 4)] (by kernel_rfl) (by kernel_rfl) ?_
   refine Par.S 1 4 [(72, 1), (73, 2), (74, 3), (75, 4)] (fun f X hX hR K hK => ?_) ?_
   · have x0 := hX.cell x0
     simp only [yA, yB, yC, yD, yE]
     refine ⟨?_⟩
     go_simp
     exact Par.k hK (s := by simp only [yA, yB, yC, yD, yE])
   refine Par.S 2 3 [(71, 0), (73, 2)] (fun f X hX hR K hK => ?_) ?_
   · simp only [yA, yB, yC, yD, yE]
     refine ⟨?_⟩
     go_simp
     exact Par.k hK (s := by simp only [yA, yB, yC, yD, yE])
   refine Par.S 3 2 [(71, 0), (72, 1)] (fun f X hX hR K hK => ?_) ?_
   · simp only [yA, yB, yC, yD, yE]
     refine ⟨?_⟩
     go_simp
     exact Par.k hK (s := by simp only [yA, yB, yC, yD, yE])
   refine Par.S 4 1 [(71, 0), (72, 1), (73, 2)] (fun f X hX hR K hK => ?_) ?_
   · have e1 : f 1 = _ := hR.out 1 rfl
     have e2 : f 2 = _ := hR.out 2 rfl
     simp only [yA, yB, yC, yD, yE, e1, e2]
     refine ⟨?_⟩
     go_simp
     exact Par.k hK (s := by simp only [yA, yB, yC, yD, yE, e1, e2])
   refine Par.S 5 0 [(71, 0), (72, 1), (73, 2), (74, 3)] (fun f X hX hR K hK => ?_) ?_
   · have e3 : f 3 = _ := hR.out 3 rfl
     simp only [yA, yB, yC, yD, yE, e3]
     refine ⟨?_⟩
     go_simp
     exact hK.out _ (.slice (some ⟨X.heap.size, 0, none⟩) 1 1) _ (by simp only [yA, yB, yC, yD, yE, e3]) (Ext.alloc _ _) trivial (fun Y hY => ⟨_, rfl, ((RS.fresh (w := X) (P := fun q => q < (X.alloc (.cells #[.int .i64 ty, .slice A2 bs.length c2'] 37)).heap.size) #[.int .i64 ty, .slice A2 bs.length c2'] 37 2 1 rfl (by unfold maxLen; omega) (by simp)).below hY (fun b hb => hb)).mono (fun b hb => Nat.lt_of_lt_of_le hb hY.bsize)⟩)
   refine Par.AllOps.fin ⟨fun f X hX hR hal hap => ?_⟩
   have e0 : f 0 = _ := hR 0 (by decide)
   have e1 : f 1 = _ := hR 1 (by decide)
   have e2 : f 2 = _ := hR 2 (by decide)
   have e3 : f 3 = _ := hR 3 (by decide)
   obtain ⟨b7p, (e4 : f 4 = _), s7p⟩ := hR 4 (by decide)
   simp only [yA, yB, yD, yE, e0, e1, e2, e3, e4]
   clear hR hal hap e0 e1 e2 e3 e4
   have hbX := hX
   have HOX := Lib.hid (HO2.out.below hX)
   refine Par.Chain.next (fun K hK => ⟨Par.want (by kernel_rfl) (wp_append_rs X (.tmp 71) (.tmp 75) 24 rfl (b + 2) 37 i1 _ 2 32 Tryz.underlying24 HJ.out hy0 hy1 hy2 rfl (by omega) (.slice A6 out.length c6) out.length cs rfl HOX.out.1 _ (some ⟨b7p, 0, none⟩) 1 1 _ rfl s7p (by simp [Value.oneCell']) (out.length + 1) rfl (by unfold maxLen; omega) (by omega) (by have := hX.bsize; omega) (fun A9 c9 w9 hown9 hg9 hor9 => hK.out _ _ ?_))⟩)
   obtain ⟨q1, hL9, hK9⟩ := lay_endG (t := ty) (v := bs) HOX.out (HF2.out.below (Below.mono hX (by omega)) hsb) hsb ((hX.block (b + 1) (by omega)).trans Hbx2.out) hlen Hlay.out rfl (by have := hX.bsize; omega) ((Hr2.out.below hX fun q hq => hq.2).mono (fun q hq => ⟨by have := hq.1; omega, by have := hq.2; have := hX.bsize; omega, fun e => by have := HLT.out _ e; have := hq.1; omega⟩)) hown9 hg9 hor9
   have z0 := blk_cell q1 0
   have z1 := blk_free q1 0
   simp only [List.getElem?_toArray, List.getElem?_cons_zero] at z0
   refine Par.Chain.next (fun K hK => ⟨Par.want (by kernel_rfl) ?_⟩)
   go_simp
   refine hK.out _ _ ?_
   refine Par.Chain.done ?_
   refine ⟨nofun, ?_⟩
   gi_wp2
   exact ⟨(HK2.out.trans (Keeps.below (B := b + 2) (C := b + 2 + 2) (m := 0) hX (Nat.le_refl _))).trans hK9, trivial, hL9⟩
  | none =>
   have Hst3 := Lib.hid (Hst2.out.2 (by trivial))
   obtain ⟨mu, hmu⟩ : ∃ mu, mustOf cl ty = mu := ⟨_, rfl⟩
   have hm2 := must_any cl ty X2
   rw [hmu] at hm2 Hst3
   have Hmu := Lib.hid hm2
   clear Hst2 hm2 hmu
   cases mu with
   | true =>
    have HN := Lib.hid (Hst3.out.1 rfl)
    have z0 := blk_cell HF2.out.r0 0
    have z1 := blk_cell HF2.out.r1 0
    have y0 := blk_free HF2.out.r0 0
    have y1 := blk_free HF2.out.r1 0
    simp only [List.getElem?_toArray, List.getElem?_cons_zero] at z0 z1
    have g0 : ((X2.setCell ⟨s, 0, none⟩ (.slice none 0 0)).setCell ⟨s + 1, 0, none⟩ (.int .i64 208)).heap[s]? = some (.cells #[.slice none 0 0] 24 (0, 0)) :=
     (Below.heap_setCell _ ⟨s + 1, 0, none⟩ _ s (show s ≠ s + 1 by omega)).trans (by simpa using bset HF2.out.r0 0 (.slice none 0 0))
    have g1 : ((X2.setCell ⟨s, 0, none⟩ (.slice none 0 0)).setCell ⟨s + 1, 0, none⟩ (.int .i64 208)).heap[s + 1]? = some (.cells #[.int .i64 208] 27 (0, 0)) := by
     have := (Below.heap_setCell X2 ⟨s, 0, none⟩ (.slice none 0 0) (s + 1) (show s + 1 ≠ s by omega)).trans HF2.out.r1
     simpa using bset this 0 (.int .i64 208)
    have G0 := Lib.hid g0
    have G1 := Lib.hid g1
    clear g0 g1
    gi_wp2
    refine ⟨trivial, (callsIn_wide.2 Hmu.out).mono ?_⟩
    rintro e X2' ⟨rfl, rfl⟩
    gi_wp2
    exact ⟨(HK2.out.trans (Keeps.setCell _ _ 0 _ (.inl (by show s < _; omega)) _)).trans (Keeps.setCell _ _ 0 _ (.inl (by show s + 1 < _; omega)) _), ⟨rfl, G0.out, G1.out, HN.out⟩, (HF2.out.bw.setCell (p := ⟨s, 0, none⟩) (Nat.le_refl _) _).setCell (p := ⟨s + 1, 0, none⟩) (by simp) _⟩
   | false =>
   have Hlay := Lib.hid (Hst3.out.2 rfl)
   obtain ⟨sv, hsv⟩ : ∃ sv, (standardOf cl ty).2 = sv := ⟨_, rfl⟩
   have hse : standardOf cl ty = (ty, sv) := by rw [← hsv]; exact Prod.ext (standardOf_fst cl ty) rfl
   have hl2 := Hlay.out
   rw [hse] at hl2
   have HL2 := Lib.hid hl2
   have HSA := Lib.hid (fun X => standard_any cl ty X)
   rw [hsv] at HSA
   clear Hst3 Hlay hse hl2 hsv
   gi_wp2
   refine ⟨trivial, (callsIn_wide.2 Hmu.out).mono ?_⟩
   rintro e X2' ⟨rfl, rfl⟩
   gi_upto_region 17 with fail
   refine Par.region_ext_in (by kernel_rfl) 5 [0, 0, 0, 6, 14, 31, 63] [] (fun j f X => match j with
    | 0 => f 0 = .slice A6 out.length c6
    | 1 => f 1 = .int .i64 cl
    | 2 => f 2 = .int .i64 ty
    | 3 => ∃ A5 c5, f 3 = .agg #[.int .i64 ty, .slice A5 sv.length c5] ∧ RB X (In X2.heap.size X.heap.size) A5 c5 sv
    | 4 => ∃ b7 A5 c5, f 4 = .slice (some ⟨b7, 0, none⟩) 1 1 ∧ RS X (fun q => q < X.heap.size) 2 (some ⟨b7, 0, none⟩) 1 1 [.int .i64 ty, .slice A5 sv.length c5] ∧ RB X (In X2.heap.size X.heap.size) A5 c5 sv
    | _ => True) (by kernel_rfl) [(63, 0), (64, 1), (65, 2), (66, 3), (67, 4)] (by kernel_rfl) (by kernel_rfl) ?_
   refine Par.S 1 4 [(64, 1), (65, 2), (66, 3), (67, 4)] (fun f X hX hR K hK => ?_) ?_
   · have x0 := hX.cell x0
     simp only [yA, yB, yC, yD, yE]
     refine ⟨?_⟩
     go_simp
     exact Par.k hK (s := by simp only [yA, yB, yC, yD, yE])
   refine Par.S 2 3 [(63, 0), (65, 2)] (fun f X hX hR K hK => ?_) ?_
   · have x0 := hX.cell x2
     simp only [yA, yB, yC, yD, yE]
     refine ⟨?_⟩
     go_simp
     exact Par.k hK (s := by simp only [yA, yB, yC, yD, yE])
   refine Par.S 3 2 [(63, 0), (64, 1)] (fun f X hX hR K hK => ?_) ?_
   · simp only [yA, yB, yC, yD, yE]
     refine ⟨?_⟩
     go_simp
     exact Par.k hK (s := by simp only [yA, yB, yC, yD, yE])
   refine Par.S 4 1 [(63, 0), (64, 1), (65, 2)] (fun f X hX hR K hK => ?_) ?_
   · have e1 : f 1 = _ := hR.out 1 rfl
     have e2 : f 2 = _ := hR.out 2 rfl
     simp only [yA, yB, yC, yD, yE, e1, e2]
     refine ⟨?_⟩
     go_simp
     refine (HSA.out X).mono ?_
     rintro e w2 ⟨A5, c5, rfl, hr, hB⟩
     exact hK.out _ (.agg #[.int .i64 ty, .slice A5 sv.length c5]) _ (by simp only [yA, yB, yC, yD, yE, e1, e2]) hB trivial (fun Y hY => ⟨A5, c5, rfl, (hr.below hY (fun b hb => hb.2)).mono (fun b hb => ⟨Nat.le_trans hX.bsize hb.1, Nat.lt_of_lt_of_le hb.2 hY.bsize⟩)⟩)
   refine Par.S 5 0 [(63, 0), (64, 1), (65, 2), (66, 3)] (fun f X hX hR K hK => ?_) ?_
   · obtain ⟨A5, c5, (e3 : f 3 = _), r3⟩ := hR.out 3 rfl
     simp only [yA, yB, yC, yD, yE, e3]
     refine ⟨?_⟩
     go_simp
     exact hK.out _ (.slice (some ⟨X.heap.size, 0, none⟩) 1 1) _ (by simp only [yA, yB, yC, yD, yE, e3]) (Ext.alloc _ _) trivial (fun Y hY => ⟨_, A5, c5, rfl, ((RS.fresh (w := X) (P := fun q => q < (X.alloc (.cells #[.int .i64 ty, .slice A5 sv.length c5] 37)).heap.size) #[.int .i64 ty, .slice A5 sv.length c5] 37 2 1 rfl (by unfold maxLen; omega) (by simp)).below hY (fun b hb => hb)).mono (fun b hb => Nat.lt_of_lt_of_le hb hY.bsize), (r3.below ((Ext.alloc X (.cells #[.int .i64 ty, .slice A5 sv.length c5] 37)).trans hY) (fun b hb => hb.2)).mono (fun b hb => ⟨hb.1, Nat.lt_of_lt_of_le hb.2 ((Ext.alloc X (.cells #[.int .i64 ty, .slice A5 sv.length c5] 37)).trans hY).bsize⟩)⟩)
   refine Par.AllOps.fin ⟨fun f X hX hR hal hap => ?_⟩
   have e0 : f 0 = _ := hR 0 (by decide)
   have e1 : f 1 = _ := hR 1 (by decide)
   have e2 : f 2 = _ := hR 2 (by decide)
   obtain ⟨A5, c5, (e3 : f 3 = _), r3⟩ := hR 3 (by decide)
   obtain ⟨b7q, A7, c7, (e4 : f 4 = _), s7q, r7q⟩ := hR 4 (by decide)
   simp only [yA, yB, yD, yE, e0, e1, e2, e3, e4]
   clear hR hal hap e0 e1 e2 e3 e4
   have hbX := hX
   have HOX := Lib.hid (HO2.out.below hX)
   refine Par.Chain.next (fun K hK => ⟨Par.want (by kernel_rfl) (wp_append_rs X (.tmp 63) (.tmp 67) 24 rfl (b + 2) 37 i1 _ 2 32 Tryz.underlying24 HJ.out hy0 hy1 hy2 rfl (by omega) (.slice A6 out.length c6) out.length cs rfl HOX.out.1 _ (some ⟨b7q, 0, none⟩) 1 1 _ rfl s7q (by simp [Value.oneCell']) (out.length + 1) rfl (by unfold maxLen; omega) (by omega) (by have := hX.bsize; omega) (fun A9 c9 w9 hown9 hg9 hor9 => hK.out _ _ ?_))⟩)
   obtain ⟨q1, hL9, hK9⟩ := lay_endG (t := ty) (v := sv) HOX.out (HF2.out.below (Below.mono hX (by omega)) hsb) hsb ((hX.block (b + 1) (by omega)).trans Hbx2.out) hlen HL2.out rfl (by have := hX.bsize; omega) ((r7q).mono (fun q hq => ⟨by have := hq.1; omega, hq.2, fun e => by have := HLT.out _ e; have := hq.1; omega⟩)) hown9 hg9 hor9
   have z0 := blk_cell q1 0
   have z1 := blk_free q1 0
   simp only [List.getElem?_toArray, List.getElem?_cons_zero] at z0
   refine Par.Chain.next (fun K hK => ⟨Par.want (by kernel_rfl) ?_⟩)
   go_simp
   refine hK.out _ _ ?_
   refine Par.Chain.done ?_
   refine ⟨nofun, ?_⟩
   gi_wp2
   exact ⟨(HK2.out.trans (Keeps.below (B := b + 2) (C := b + 2 + 2) (m := 0) hX (Nat.le_refl _))).trans hK9, trivial, hL9⟩
 case done =>
  rintro D X hD ⟨out, A6, c6, cs, hbx, hO, hlay, hlen, hF⟩ hK
  have hRo : R = some out := by
   rw [List.drop_eq_nil_of_le (by simp [tys])] at hlay
   simpa [layOn] using hlay.symm
  have HRo := Lib.hid hRo
  have HSo := Lib.hid (Hsh.out out hRo)
  have Hln := Lib.hid (show out.length ≤ 1000 from Nat.le_trans hlen (by decide))
  clear hRo
  rw [H6.out] at hD
  have x0 := blk_cell hbx 0
  have c2 := blk_cell hF.cl 0
  have c3 := blk_cell hF.ky 0
  simp only [List.getElem?_toArray, List.getElem?_cons_zero] at x0 c2 c3
  have hDX := blk_lt hK
  have HWo := Lib.hid (worth_g _ A6 c6 out cl ky X hk17 hO.ra (fun b hb => hb.2) HSo.out)
  have HO := Lib.hid hO.ra
  have HFx := Lib.hid hF
  have Hbx := Lib.hid hbx
  have HKd := Lib.hid hK
  clear hlay hF hbx hK hO hlen
  gi_wp2
  refine ⟨trivial, (callsIn_wide.2 HWo.out).mono ?_⟩
  rintro e X1 ⟨⟨ok, rfl, hok⟩, hB1⟩
  have Hok := Lib.hid hok
  clear hok
  have hs1 := hB1.size
  have HF1 := Lib.hid (HFx.out.below (hB1.mono (by omega)) hsb)
  have hbx1 := (hB1.block (b + 1) (by omega)).trans Hbx.out
  have hk1 := (hB1.block D hDX).trans HKd.out
  have x1 := blk_cell hbx1 0
  simp only [List.getElem?_toArray, List.getElem?_cons_zero] at x1
  cases ok with
  | false =>
   have HK1 := Lib.hid hk1
   have z0 := blk_cell HF1.out.r0 0
   have z1 := blk_cell HF1.out.r1 0
   have y0 := blk_free HF1.out.r0 0
   have y1 := blk_free HF1.out.r1 0
   simp only [List.getElem?_toArray, List.getElem?_cons_zero] at z0 z1
   clear hB1 hbx1 hk1 HFx Hbx HKd HO x0 c2 c3 x1
   gi_wp2
   have g0 : ((X1.setCell ⟨s, 0, none⟩ (.slice none 0 0)).setCell ⟨s + 1, 0, none⟩ (.int .i64 19)).cell? ⟨s, 0, none⟩ = some (.slice none 0 0) := by simp [go_sem, z0]
   have g1 : ((X1.setCell ⟨s, 0, none⟩ (.slice none 0 0)).setCell ⟨s + 1, 0, none⟩ (.int .i64 19)).cell? ⟨s + 1, 0, none⟩ = some (.int .i64 19) := by simp [go_sem, z1]
   have gD : ((X1.setCell ⟨s, 0, none⟩ (.slice none 0 0)).setCell ⟨s + 1, 0, none⟩ (.int .i64 19)).heap[D]? = some (.deferred (some [])) :=
    (Below.heap_setCell _ ⟨s + 1, 0, none⟩ _ D (show D ≠ s + 1 by omega)).trans ((Below.heap_setCell _ ⟨s, 0, none⟩ _ D (show D ≠ s by omega)).trans HK1.out)
   have hB4 : Below s w ((X1.setCell ⟨s, 0, none⟩ (.slice none 0 0)).setCell ⟨s + 1, 0, none⟩ (.int .i64 19)) := (HF1.out.bw.setCell (p := ⟨s, 0, none⟩) (Nat.le_refl _) _).setCell (p := ⟨s + 1, 0, none⟩) (by simp) _
   have hz4 : ((X1.setCell ⟨s, 0, none⟩ (.slice none 0 0)).setCell ⟨s + 1, 0, none⟩ (.int .i64 19)).heap.size = X1.heap.size := by simp
   generalize (X1.setCell ⟨s, 0, none⟩ (.slice none 0 0)).setCell ⟨s + 1, 0, none⟩ (.int .i64 19) = X4 at *
   have hr' : ∀ r, some D = some r → ∃ o : Obj, X4.heap[r]? = some o ∧ o.isCells = false := fun r e => by cases e; exact ⟨_, gD, rfl⟩
   have u0 := cell_kept g0 (grownBy_putObj' X4 D (.deferred none)) hr'
   have u1 := cell_kept g1 (grownBy_putObj' X4 D (.deferred none)) hr'
   refine ⟨by simp, .inl ⟨_, _, rfl, run_takeDeferred gD, .tuple #[.slice none 0 0, .int .i64 19], ?_, ⟨none, 0, [], 19, rfl, RA.nil_ _ _, .inr ⟨out, HRo.out, .inl ⟨rfl, rfl, fun h1 h2 h3 => by cases Hok.out h1 h2 h3⟩⟩⟩, ?_⟩⟩
   · simp [results, Tryz.f20, go_sem, u0, u1]
   · rw [Hs.out]
     exact hB4.grown (grownBy_putObj' X4 D (.deferred none)) (by omega) (fun r e => by cases e; omega)
  | true =>
  clear Hok
  have hre := reckoned_1 _ A6 none c6 0 0 out X1 (HO.out.below hB1 fun q hq => hq.2) (fun q hq => by have := hq.2; omega) HSo.out.seek Hln.out
  have HRe := Lib.hid hre
  have HK1 := Lib.hid hk1
  clear hB1 hbx1 hk1 hre HFx Hbx HKd HO x0 c2 c3
  gi_wp2
  refine ⟨trivial, (callsIn_wide.2 HRe.out).mono ?_⟩
  rintro e X2 ⟨A7, c7, rfl, hR7, hB2⟩
  have HF2 := Lib.hid (HF1.out.below (hB2.mono (by omega)) hsb)
  have hk2 := (hB2.block D (by omega)).trans HK1.out
  have z0 := blk_cell HF2.out.r0 0
  have z1 := blk_cell HF2.out.r1 0
  have y0 := blk_free HF2.out.r0 0
  have y1 := blk_free HF2.out.r1 0
  simp only [List.getElem?_toArray, List.getElem?_cons_zero] at z0 z1
  have HK2 := Lib.hid hk2
  have HR7 := Lib.hid hR7
  have hs2 := hB2.size
  clear hB2 hk2 hR7 HF1 HK1 x1
  gi_wp2
  have g0 : ((X2.setCell ⟨s, 0, none⟩ (.slice A7 (reckOf out).length c7)).setCell ⟨s + 1, 0, none⟩ (.int .i64 0)).heap[s]? = some (.cells #[.slice A7 (reckOf out).length c7] 24 (0, 0)) :=
   (Below.heap_setCell _ ⟨s + 1, 0, none⟩ _ s (show s ≠ s + 1 by omega)).trans (by simpa using bset HF2.out.r0 0 (.slice A7 (reckOf out).length c7))
  have g1 : ((X2.setCell ⟨s, 0, none⟩ (.slice A7 (reckOf out).length c7)).setCell ⟨s + 1, 0, none⟩ (.int .i64 0)).heap[s + 1]? = some (.cells #[.int .i64 0] 27 (0, 0)) := by
   have := (Below.heap_setCell X2 ⟨s, 0, none⟩ (.slice A7 (reckOf out).length c7) (s + 1) (show s + 1 ≠ s by omega)).trans HF2.out.r1
   simpa using bset this 0 (.int .i64 0)
  have gD : ((X2.setCell ⟨s, 0, none⟩ (.slice A7 (reckOf out).length c7)).setCell ⟨s + 1, 0, none⟩ (.int .i64 0)).heap[D]? = some (.deferred (some [])) :=
   (Below.heap_setCell _ ⟨s + 1, 0, none⟩ _ D (show D ≠ s + 1 by omega)).trans ((Below.heap_setCell _ ⟨s, 0, none⟩ _ D (show D ≠ s by omega)).trans HK2.out)
  have hB4 : Below s w ((X2.setCell ⟨s, 0, none⟩ (.slice A7 (reckOf out).length c7)).setCell ⟨s + 1, 0, none⟩ (.int .i64 0)) := (HF2.out.bw.setCell (p := ⟨s, 0, none⟩) (Nat.le_refl _) _).setCell (p := ⟨s + 1, 0, none⟩) (by simp) _
  have hR4 : RA ((X2.setCell ⟨s, 0, none⟩ (.slice A7 (reckOf out).length c7)).setCell ⟨s + 1, 0, none⟩ (.int .i64 0)) (fun q => b + 2 ≤ q ∧ q < X2.heap.size) A7 c7 (reckOf out) :=
   (HR7.out.mono (P' := fun q => b + 2 ≤ q ∧ q < X2.heap.size) fun q hq => hq.elim (fun h => ⟨h.1, Nat.lt_of_lt_of_le h.2 (Nat.le_trans hs1 hs2)⟩) (fun h => ⟨by have := h.1; omega, h.2⟩)).keep fun p hp => by
    have h1 : p.block ≠ s + 1 := by have := hp.1; omega
    have h2 : p.block ≠ s := by have := hp.1; omega
    exact (World.cell?_of_block (Below.heap_setCell _ ⟨s + 1, 0, none⟩ _ p.block h1)).trans (World.cell?_of_block (Below.heap_setCell _ ⟨s, 0, none⟩ _ p.block h2))
  have hz4 : ((X2.setCell ⟨s, 0, none⟩ (.slice A7 (reckOf out).length c7)).setCell ⟨s + 1, 0, none⟩ (.int .i64 0)).heap.size = X2.heap.size := by simp
  generalize (X2.setCell ⟨s, 0, none⟩ (.slice A7 (reckOf out).length c7)).setCell ⟨s + 1, 0, none⟩ (.int .i64 0) = X4 at *
  have hr' : ∀ r, some D = some r → ∃ o : Obj, X4.heap[r]? = some o ∧ o.isCells = false := fun r e => by cases e; exact ⟨_, gD, rfl⟩
  have u0 := cell_kept (blk_cell g0 0) (grownBy_putObj' X4 D (.deferred none)) hr'
  have u1 := cell_kept (blk_cell g1 0) (grownBy_putObj' X4 D (.deferred none)) hr'
  try simp only [List.getElem?_toArray, List.getElem?_cons_zero] at u0 u1
  refine ⟨by simp, .inl ⟨_, _, rfl, run_takeDeferred gD, .tuple #[.slice A7 (reckOf out).length c7, .int .i64 0], ?_, ⟨A7, c7, reckOf out, 0, rfl, ?_, .inr ⟨out, HRo.out, .inr ⟨rfl, rfl⟩⟩⟩, ?_⟩⟩
  · simp [results, Tryz.f20, go_sem, u0, u1]
  · exact (RA.grown hR4 (grownBy_putObj' X4 D (.deferred none)) hr').mono fun q hq => by have := hq.2; simp; omega
  · rw [Hs.out]
    exact hB4.grown (grownBy_putObj' X4 D (.deferred none)) (by omega) (fun r e => by cases e; omega)
end Go.Proofs.YtendnkpiidhogaaGreat.At

namespace Go.Proofs.YtendnkpiidhogaaGreat.At
open Go.RowKit Go.Shelf

attribute [local go_sem] Oper.semAt_some

theorem n4 : num4 4 = [0, 0, 0, 4] := by decide
theorem n31 : num4 31 = [0, 0, 0, 31] := by decide
theorem made_b {l : Attrs} {rv : Int} (h : MadeR 4 31 (some (bobj 0 [])) l rv) : l = bobj 0 [0, 0, 0, 16] ∧ rv = 0 := by
 rcases h with ⟨h, _⟩ | ⟨o, h, h1⟩
 · cases h
 · cases h
   rcases h1 with ⟨_, _, h2⟩ | ⟨h2, h3⟩
   · exact absurd (by rw [b_val]; rfl) (h2 rfl rfl)
   · exact ⟨h2.trans b_reck, h3⟩
theorem made16 (w : World) : RB (w.alloc (.cells (madeCells #[.int .u8 0] 16) 5)) (fun k => k < (w.alloc (.cells (madeCells #[.int .u8 0] 16) 5)).heap.size) (some ⟨w.heap.size, 0, none⟩) 16 [0, 0, 0, 0, 0, 0, 0, 0, 0, 0, 0, 0, 0, 0, 0, 0] :=
 RB.fresh _ _ _ 16 _ (by simp [madeCells, bys, List.range_succ]) (by simp) rfl (by omega) rfl (by simp)
theorem rbUp {w X : World} {A : Option Addr} {c : Nat} {bs : List Nat} (h : RB w (fun b => b < w.heap.size) A c bs) (hE : Ext w X) : RB X (fun b => b < X.heap.size) A c bs := (h.below hE (fun _ hb => hb)).mono fun _ hb => Nat.lt_of_lt_of_le hb hE.bsize
theorem raUp {w X : World} {A : Option Addr} {c : Nat} {l : Attrs} (h : RA w (fun b => b < w.heap.size) A c l) (hE : Ext w X) : RA X (fun b => b < X.heap.size) A c l := (h.below hE (fun _ hb => hb)).mono fun _ hb => Nat.lt_of_lt_of_le hb hE.bsize

set_option maxRecDepth 100000 in
set_option maxHeartbeats 8000000 in
theorem begun18_any (w : World) : Calls Tryz.prog 9 #[] w fun e w' => e = .returned (.bool true) ∧ Below w.heap.size w w' := by
 go_enter Tryz.func9, Tryz.ntmps9
 go_upto_region 1 with fail
 refine Par.region_ext (by kernel_rfl) 6 [0, 1, 0, 4, 15, 31] [] (fun j f X => match j with
  | 0 => ∃ A0 c0, f 0 = .agg #[.int .i64 0, .slice A0 4 c0] ∧ RB X (fun q => q < X.heap.size) A0 c0 [0, 0, 0, 4]
  | 1 => ∃ A0 c0, f 1 = .agg #[.int .i64 256, .slice A0 4 c0] ∧ RB X (fun q => q < X.heap.size) A0 c0 [0, 0, 0, 31]
  | 2 => ∃ b, f 2 = .slice (some ⟨b, 0, none⟩) 16 16 ∧ RB X (fun q => q < X.heap.size) (some ⟨b, 0, none⟩) 16 [0, 0, 0, 0, 0, 0, 0, 0, 0, 0, 0, 0, 0, 0, 0, 0]
  | 3 => ∃ b, f 3 = .agg #[.int .i64 17, .slice (some ⟨b, 0, none⟩) 16 16] ∧ RB X (fun q => q < X.heap.size) (some ⟨b, 0, none⟩) 16 [0, 0, 0, 0, 0, 0, 0, 0, 0, 0, 0, 0, 0, 0, 0, 0]
  | 4 => ∃ b, f 4 = .slice (some ⟨b, 0, none⟩) 3 3 ∧ RA X (fun q => q < X.heap.size) (some ⟨b, 0, none⟩) 3 bt0
  | 5 => ∃ b, f 5 = .slice (some ⟨b, 0, none⟩) 3 3 ∧ RA X (fun q => q < X.heap.size) (some ⟨b, 0, none⟩) 3 bt0
  | _ => True) (by kernel_rfl) [(13, 0), (14, 1), (15, 2), (16, 3), (17, 4), (1, 5)] (by kernel_rfl) ?_
 refine Par.c0 1 5 (fun _ => #[Value.int IntKind.i64 0, Value.int IntKind.i64 4]) (F' := 31) (fun f X hX hR => ?_) ?_
 · refine (refNum_any 0 4 X).mono ?_
   rw [n4]
   rintro e w2 ⟨A0, c0, rfl, hr, hB⟩
   exact ⟨(.agg #[.int .i64 0, .slice A0 4 c0]), rfl, hB, fun Y hY => ⟨A0, c0, rfl, rbUp (hr.mono fun b hb => hb.2) hY⟩⟩
 refine Par.c0 2 4 (fun _ => #[Value.int IntKind.i64 256, Value.int IntKind.i64 31]) (F' := 31) (fun f X hX hR => ?_) ?_
 · refine (refNum_any 256 31 X).mono ?_
   rw [n31]
   rintro e w2 ⟨A0, c0, rfl, hr, hB⟩
   exact ⟨(.agg #[.int .i64 256, .slice A0 4 c0]), rfl, hB, fun Y hY => ⟨A0, c0, rfl, rbUp (hr.mono fun b hb => hb.2) hY⟩⟩
 refine Par.S 3 3 [(13, 0), (14, 1)] (fun f X hX hR K hK => ?_) ?_
 · have hmk := run_make_row' (P := Tryz.prog) 33 5 (.int .u8 0) 1 Tryz.underlying33 info5 rfl .i64 .i64 16 (by omega) (by omega)
   simp only [Int.cast_ofNat_Int] at hmk
   simp only [yA, yB, yC, yD, yE]
   refine ⟨?_⟩
   go_simp
   exact hK.out _ _ _ (by simp only [yA, yB, yC, yD, yE]) (Ext.alloc _ _) trivial (fun Y hY => ⟨_, rfl, rbUp (made16 X) hY⟩)
 refine Par.S 4 2 [(13, 0), (14, 1), (15, 2)] (fun f X hX hR K hK => ?_) ?_
 · obtain ⟨b2, (e2 : f 2 = _), r2⟩ := hR.out 2 rfl
   simp only [yA, yB, yC, yD, yE, e2]
   refine ⟨?_⟩
   go_simp
   exact hK.out _ (.agg #[.int .i64 17, .slice (some ⟨b2, 0, none⟩) 16 16]) _ (by simp only [yA, yB, yC, yD, yE, e2]) (Ext.refl _) trivial (fun Y hY => ⟨b2, rfl, rbUp r2 hY⟩)
 refine Par.S 5 1 [(13, 0), (14, 1), (15, 2), (16, 3)] (fun f X hX hR K hK => ?_) ?_
 · obtain ⟨A0, c0, (e0 : f 0 = _), r0⟩ := hR.out 0 rfl
   obtain ⟨A1, c1, (e1 : f 1 = _), r1⟩ := hR.out 1 rfl
   obtain ⟨b3, (e3 : f 3 = _), r3⟩ := hR.out 3 rfl
   simp only [yA, yB, yC, yD, yE, e0, e1, e3]
   refine ⟨?_⟩
   go_simp
   exact hK.out _ (.slice (some ⟨X.heap.size, 0, none⟩) 3 3) _ (by simp only [yA, yB, yC, yD, yE, e0, e1, e3]) (Ext.alloc _ _) trivial (fun Y hY => ⟨_, rfl, raUp (RA.lit (P := fun q => q < (X.alloc (.cells #[.int .i64 0, .slice A0 4 c0, .int .i64 256, .slice A1 4 c1, .int .i64 17, .slice (some ⟨b3, 0, none⟩) 16 16] 37)).heap.size) _ _ bt0 3 _ ((CA.single (x := (0, [0, 0, 0, 4])) r0).app ((CA.single (x := (256, [0, 0, 0, 31])) r1).app (CA.single (x := (17, [0, 0, 0, 0, 0, 0, 0, 0, 0, 0, 0, 0, 0, 0, 0, 0])) r3) rfl) rfl) rfl rfl (by omega) rfl (fun b hb => hb) (by simp) (fun b hb => by simp; omega)) hY⟩)
 refine Par.S 6 0 [(13, 0), (14, 1), (15, 2), (16, 3), (17, 4)] (fun f X hX hR K hK => ?_) ?_
 · obtain ⟨b4, (e4 : f 4 = _), r4⟩ := hR.out 4 rfl
   simp only [yA, yB, yC, yD, yE, e4]
   refine ⟨?_⟩
   go_simp
   exact hK.out _ (.slice (some ⟨b4, 0, none⟩) 3 3) _ (by simp only [yA, yB, yC, yD, yE, e4]) (Ext.refl _) trivial (fun Y hY => ⟨b4, rfl, raUp r4 hY⟩)
 refine Par.AllOps.fin ⟨fun f X hX hR hal hap => ?_⟩
 obtain ⟨A0, c0, (e0 : f 0 = _), r0⟩ := hR 0 (by decide)
 obtain ⟨A1, c1, (e1 : f 1 = _), r1⟩ := hR 1 (by decide)
 obtain ⟨b2, (e2 : f 2 = _), r2⟩ := hR 2 (by decide)
 obtain ⟨b3, (e3 : f 3 = _), r3⟩ := hR 3 (by decide)
 obtain ⟨b4, (e4 : f 4 = _), r4⟩ := hR 4 (by decide)
 obtain ⟨b5, (e5 : f 5 = _), r5⟩ := hR 5 (by decide)
 simp only [yA, yB, yD, yE, e0, e1, e2, e3, e4, e5]
 clear hR hal hap e0 e1 e2 e3 e4 e5
 refine Par.Chain.done ?_
 have hB0 : Below w.heap.size w X := hX
 have HB0 := Lib.hid hB0
 have Ht := Lib.hid r5
 have hl3 : bt0.length = 3 := rfl
 have hM := made_core _ (some ⟨b5, 0, none⟩) 3 bt0 ball 4 31 (some (bobj 0 [])) X r5 (fun b hb => hb) (by rw [hl3]; omega) b_check b_kinds b_joined b_lay (.inr (.inl ⟨rfl, .inr rfl⟩)) (fun o e => by cases e; exact b_lens)
 rw [hl3] at hM
 have HM := Lib.hid hM
 clear hX hB0 r5 r4 hM
 go_wp2_with fail
 refine HM.out.mono ?_
 rintro e w2 ⟨⟨A2, c2, l2, rv2, rfl, hr2, hm2⟩, hB2⟩
 obtain ⟨rfl, rfl⟩ := made_b hm2
 rw [b_len]
 have Ht2 := Lib.hid (raUp Ht.out hB2)
 have HB2 := Lib.hid (HB0.out.trans (hB2.mono HB0.out.size))
 have Ho2 := Lib.hid hr2
 clear hr2 hB2 HM
 have hK2 := kinds_any _ (some ⟨b5, 0, none⟩) 3 bt0 (-1) 0 w2 Ht2.out (fun b hb => hb)
 rw [hl3, b_kinds] at hK2
 have HK2 := Lib.hid hK2
 clear hK2
 go_wp2_with fail
 refine HK2.out.mono ?_
 rintro e w3 ⟨rfl, hB3⟩
 have Ht3 := Lib.hid (raUp Ht2.out hB3)
 have Ho3 := Lib.hid (raUp Ho2.out hB3)
 have HB3 := Lib.hid (HB2.out.trans (hB3.mono HB2.out.size))
 clear hB3
 have hW3 := wants_any _ (some ⟨b5, 0, none⟩) 3 bt0 4 w3 Ht3.out (fun b hb => hb)
 rw [hl3, b_token, b_private] at hW3
 have HW3 := Lib.hid hW3
 clear hW3
 go_wp2_with fail
 refine HW3.out.mono ?_
 rintro e w4 ⟨rfl, hB4⟩
 have Ht4 := Lib.hid (raUp Ht3.out hB4)
 have Ho4 := Lib.hid (raUp Ho3.out hB4)
 have HB4 := Lib.hid (HB3.out.trans (hB4.mono HB3.out.size))
 clear hB4
 go_wp2_with fail
 refine (refBool_any 259 true w4).mono ?_
 rintro e w5 ⟨A5, c5, rfl, hr5, hB5⟩
 have Ht5 := Lib.hid (raUp Ht4.out hB5)
 have Ho5 := Lib.hid (raUp Ho4.out hB5)
 have HB5 := Lib.hid (HB4.out.trans (hB5.mono HB4.out.size))
 have hL5 := RA.lit (P := fun q => q < (w5.alloc (.cells #[.int .i64 259, .slice A5 1 c5] 37)).heap.size) (w := w5) #[.int .i64 259, .slice A5 1 c5] 37 [(259, [1])] 1 w5.heap.size (CA.single (x := (259, [1])) (hr5.mono fun b hb => hb.2)) rfl rfl (by omega) rfl (fun b hb => hb) (by simp) (fun b hb => by simp; omega)
 have hs5 := set_any _ _ A2 (some ⟨w5.heap.size, 0, none⟩) c2 1 (bobj 0 [0, 0, 0, 16]) [(259, [1])] _ (raUp Ho5.out (Ext.alloc w5 (.cells #[.int .i64 259, .slice A5 1 c5] 37))) (fun b hb => hb) hL5 (fun b hb => hb) (by decide) (by decide)
 rw [b_set, b_len] at hs5
 have HS5 := Lib.hid hs5
 have Ht6 := Lib.hid (raUp Ht5.out (Ext.alloc w5 (.cells #[.int .i64 259, .slice A5 1 c5] 37)))
 have HB6 := Lib.hid (HB5.out.alloc HB5.out.size (.cells #[.int .i64 259, .slice A5 1 c5] 37))
 clear hB5 hr5 hL5 hs5
 go_wp2_with fail
 refine HS5.out.mono ?_
 rintro e w7 ⟨⟨A7, c7, rfl, hr7⟩, hB7⟩
 have Ht7 := Lib.hid (raUp Ht6.out hB7)
 have HB7 := Lib.hid (HB6.out.trans (hB7.mono HB6.out.size))
 have hs7 := hr7.mono (P' := fun b => b < w7.heap.size) fun b hb => hb.2
 have hI := RI.fresh (P := fun q => q < (w7.alloc (.cells #[.int .i64 17, .int .i64 353] 3)).heap.size) w7 #[.int .i64 17, .int .i64 353] 3 [17, 353] 2 rfl rfl (by omega) (by simp)
 have hE7 := Ext.alloc w7 (.cells #[.int .i64 17, .int .i64 353] 3)
 have hs8 := raUp hs7 hE7
 have hg8 := rget_any _ _ A7 (some ⟨w7.heap.size, 0, none⟩) c7 2 (bobj 1 [0, 0, 0, 16]) [17, 353] _ hs8 (fun b hb => hb) hI (fun b hb => hb) (by decide)
 rw [b_get] at hg8
 have HG8 := Lib.hid hg8
 have Hs8 := Lib.hid hs8
 have Ht8 := Lib.hid (raUp Ht7.out hE7)
 have HB8 := Lib.hid (HB7.out.alloc HB7.out.size (.cells #[.int .i64 17, .int .i64 353] 3))
 clear hB7 hr7 hs7 hI hE7 hs8 hg8
 go_wp2_with fail
 refine HG8.out.mono ?_
 rintro e w9 ⟨A9, c9, rfl, hr9, hB9⟩
 have Ht9 := Lib.hid (raUp Ht8.out hB9)
 have Hs9 := Lib.hid (raUp Hs8.out hB9)
 have HB9 := Lib.hid (HB8.out.trans (hB9.mono HB8.out.size))
 obtain ⟨ad, Av, cv, rfl, _, q0, q1, _⟩ := hr9.at_ (i := 0) (by simp)
 obtain ⟨ad', Av', cv', ead, _, q2, q3, _⟩ := hr9.at_ (i := 1) (by simp)
 injection ead with ead
 subst ead
 simp [Addr.add] at q0 q1 q2 q3
 clear hr9 hB9
 have hh9 := has_any 4 31 17 w9
 rw [b_has] at hh9
 have HH9 := Lib.hid hh9
 clear hh9
 go_wp2_with fail
 refine HH9.out.mono ?_
 rintro e w10 ⟨rfl, hB10⟩
 have Ht10 := Lib.hid (raUp Ht9.out hB10)
 have Hs10 := Lib.hid (raUp Hs9.out hB10)
 have HB10 := Lib.hid (HB9.out.trans (hB10.mono HB9.out.size))
 have hd10 := hidden_any _ A7 c7 (bobj 1 [0, 0, 0, 16]) 17 w10 Hs10.out (fun b hb => hb)
 rw [b_hidden] at hd10
 have HD10 := Lib.hid hd10
 clear hB10 hd10
 go_wp2_with fail
 refine HD10.out.mono ?_
 rintro e w11 ⟨rfl, hB11⟩
 have Ht11 := Lib.hid (raUp Ht10.out hB11)
 have HB11 := Lib.hid (HB10.out.trans (hB11.mono HB10.out.size))
 have hc11 := check_any _ (some ⟨b5, 0, none⟩) 3 bt0 1 (-1) 0 w11 Ht11.out (fun b hb => hb)
 rw [b_check, hl3] at hc11
 have HC11 := Lib.hid hc11
 clear hB11 hc11
 go_wp2_with fail
 refine HC11.out.mono ?_
 rintro e w12 ⟨rfl, hB12⟩
 go_wp2
 go_ret
 exact ⟨rfl, HB11.out.trans (hB12.mono HB11.out.size)⟩
end Go.Proofs.YtendnkpiidhogaaGreat.At

namespace Go.Proofs.YtendnkpiidhogaaGreat.At
open Go.RowKit Go.Shelf

set_option maxRecDepth 100000 in
set_option maxHeartbeats 4000000 in
theorem cut18_any (P : Nat → Prop) (A : Option Addr) (c : Nat) (l : Attrs) (w : World) (hv : RA w P A c l) (hP : ∀ b, P b → b < w.heap.size) :
 Calls Tryz.prog 19 #[.slice A l.length c] w fun e w' => (∃ A' c', e = .returned (.slice A' (cutOf l 20 600).length c') ∧ RA w' (fun b => b < w'.heap.size) A' c' (cutOf l 20 600)) ∧ Below w.heap.size w w' := by
 have H := Lib.hid (cut_any P A c l 20 600 w hv hP (by omega) (by omega))
 clear hv hP
 go_enter Tryz.func19, Tryz.ntmps19
 go_wp2_with fail
 refine H.out.mono ?_
 rintro e w1 ⟨A1, c1, cs, rfl, ho, hB⟩
 have HR := Lib.hid (ho.ra.mono (P' := fun b => b < w1.heap.size) fun b hb => hb.2)
 have HB := Lib.hid hB
 clear ho hB
 go_wp2
 go_ret
 exact ⟨⟨A1, c1, rfl, HR.out⟩, HB.out⟩
end Go.Proofs.YtendnkpiidhogaaGreat.At

namespace Go.Proofs.YtendnkpiidhogaaGreat.At

inductive Alk : Attrs → Attrs → Prop
 | nil : Alk [] []
 | cons {x y : Int × List Nat} {l m : Attrs} : x.1 = y.1 → (x.1 ≠ 17 → x.2 = y.2) → x.2.length = y.2.length → Alk l m → Alk (x :: l) (y :: m)
theorem Alk.refl : ∀ l, Alk l l
 | [] => .nil
 | _ :: l => .cons rfl (fun _ => rfl) rfl (Alk.refl l)
theorem seek_cns (x : Int × List Nat) (l : Attrs) (t : Int) : seek (x :: l) t = if x.1 = t then some x.2 else seek l t := by
 unfold seek
 rw [List.find?_cons]
 by_cases h : x.1 = t
 · rw [if_pos h, show (x.1 == t) = true by simpa using h]; rfl
 · rw [if_neg h, show (x.1 == t) = false by simpa using h]
theorem Alk.seek {l m : Attrs} (h : Alk l m) {t : Int} (ht : t ≠ 17) : At.seek l t = At.seek m t := by
  induction h with
  | nil => rfl
  | cons h1 h2 h3 h ih =>
    rw [seek_cns, seek_cns, ← h1, ih]
    split
    · rename_i e
      rw [h2 (by rw [e]; exact ht)]
    · rfl
theorem Alk.seek17 {l m : Attrs} (h : Alk l m) : (At.seek l 17).map List.length = (At.seek m 17).map List.length := by
  induction h with
  | nil => rfl
  | cons h1 h2 h3 h ih =>
    rw [seek_cns, seek_cns, ← h1]
    split
    · simp [h3]
    · exact ih
theorem Alk.came {l m : Attrs} (h : Alk l m) (t : Int) : At.came l t = At.came m t := by
 unfold At.came
 by_cases ht : t = 17
 · subst ht
   have e := h.seek17
   cases h1 : At.seek l 17 <;> cases h2 : At.seek m 17 <;> rw [h1, h2] at e <;> simp at e <;> rfl
 · rw [h.seek ht]
theorem Alk.others {l m : Attrs} (h : Alk l m) (t : Int) : Alk (At.others t l) (At.others t m) := by
  induction h with
  | nil => exact .nil
  | cons h1 h2 h3 h ih =>
    unfold At.others at ih ⊢
    rw [List.filter_cons, List.filter_cons, ← h1]
    split
    · exact .cons h1 h2 h3 ih
    · exact ih
theorem Alk.ins {l m : Attrs} (h : Alk l m) {a b : Int × List Nat} (e1 : a.1 = b.1) (e2 : a.1 ≠ 17 → a.2 = b.2) (e3 : a.2.length = b.2.length) : Alk (At.ins a l) (At.ins b m) := by
  induction h with
  | nil => exact .cons e1 e2 e3 .nil
  | cons h1 h2 h3 h ih =>
    rw [At.ins, At.ins, ← h1, ← e1]
    split
    · exact .cons e1 e2 e3 (.cons h1 h2 h3 h)
    · exact .cons h1 h2 h3 ih
theorem Alk.put {l m : Attrs} (h : Alk l m) {a b : Int × List Nat} (e1 : a.1 = b.1) (e2 : a.1 ≠ 17 → a.2 = b.2) (e3 : a.2.length = b.2.length) : Alk (putOf l a) (putOf m b) := by
 unfold putOf
 rw [← e1]
 exact (h.others a.1).ins e1 e2 e3
theorem Alk.snoc {l m : Attrs} (h : Alk l m) {a b : Int × List Nat} (e1 : a.1 = b.1) (e2 : a.1 ≠ 17 → a.2 = b.2) (e3 : a.2.length = b.2.length) : Alk (l ++ [a]) (m ++ [b]) := by
 induction h with
 | nil => exact .cons e1 e2 e3 .nil
 | cons h1 h2 h3 h ih => exact .cons h1 h2 h3 ih
theorem Alk.join {s t : Attrs} (h : Alk s t) : ∀ {l m o p : Attrs}, Alk l m → joinOn l s = some o → joinOn m t = some p → Alk o p := by
  induction h with
  | nil =>
    intro l m o p hlm h1 h2
    rw [joinOn] at h1 h2
    cases h1; cases h2
    exact hlm
  | cons e1 e2 e3 h ih =>
    intro l m o p hlm h1 h2
    rw [joinOn] at h1 h2
    split at h1
    · cases h1
    · split at h2
      · cases h2
      · exact ih (hlm.put e1 e2 e3) h1 h2
theorem Alk.joined {s t o p : Attrs} (h : Alk s t) (h1 : joinedOf s [] = some o) (h2 : joinedOf t [] = some p) : Alk o p := by
  unfold joinedOf at h1 h2
  cases e1 : joinOn [] s with
  | none => rw [e1] at h1; cases h1
  | some o' =>
    cases e2 : joinOn [] t with
    | none => rw [e2] at h2; cases h2
    | some p' =>
      rw [e1] at h1
      rw [e2] at h2
      cases h1; cases h2
      exact h.join .nil e1 e2
theorem Alk.lay {c k : Int} {a b : Attrs} (h : Alk a b) : ∀ (ts : List Int) {l m o p : Attrs}, Alk l m → layOn c k a l ts = some o → layOn c k b m ts = some p → Alk o p
  | [], l, m, o, p, hlm, h1, h2 => by
    rw [layOn] at h1 h2
    cases h1; cases h2
    exact hlm
  | t :: ts, l, m, o, p, hlm, h1, h2 => by
    rw [layOn] at h1 h2
    split at h1
    · rename_i hh
      rw [if_pos hh] at h2
      exact h.lay ts hlm h1 h2
    · rename_i hh
      rw [if_neg hh] at h2
      have hc := h.came t
      unfold At.came at hc
      cases e1 : At.seek a t with
      | none =>
        cases e2 : At.seek b t with
        | some _ => rw [e1, e2] at hc; cases hc
        | none =>
          rw [e1] at h1
          rw [e2] at h2
          simp only at h1 h2
          split at h1
          · cases h1
          · rename_i hm
            rw [if_neg hm] at h2
            exact h.lay ts (hlm.snoc rfl (fun _ => rfl) rfl) h1 h2
      | some v =>
        cases e2 : At.seek b t with
        | none => rw [e1, e2] at hc; cases hc
        | some u =>
          rw [e1] at h1
          rw [e2] at h2
          simp only at h1 h2
          refine h.lay ts (hlm.snoc (a := (t, v)) (b := (t, u)) rfl (fun ht => ?_) ?_) h1 h2
          · have := h.seek (t := t) ht
            rw [e1, e2] at this
            cases this
            rfl
          · by_cases ht : t = 17
            · subst ht
              have := h.seek17
              rw [e1, e2] at this
              simpa using this
            · have := h.seek (t := t) ht
              rw [e1, e2] at this
              cases this
              rfl
theorem Alk.putIf {l m : Attrs} (h : Alk l m) (a : Int × List Nat) : Alk (At.putIf l a) (At.putIf m a) := by
 unfold At.putIf
 rw [← h.came a.1]
 split
 · exact h.put rfl (fun _ => rfl) rfl
 · exact h
theorem Alk.fold {l m : Attrs} (h : Alk l m) : ∀ r : Attrs, Alk (r.foldl At.putIf l) (r.foldl At.putIf m)
 | [] => h
 | a :: r => (h.putIf a).fold r
theorem Alk.reck {l m : Attrs} (h : Alk l m) : Alk (reckOf l) (reckOf m) := by
 unfold reckOf
 have e1 : ((At.seek l 17).getD []).length = ((At.seek m 17).getD []).length := by
  have e := h.seek17
  cases h1 : At.seek l 17 <;> cases h2 : At.seek m 17 <;> rw [h1, h2] at e <;> simp at e <;> simp [e]
 have e2 : reckList ((At.seek l 17).getD []) ((At.seek l 288).getD []) = reckList ((At.seek m 17).getD []) ((At.seek m 288).getD []) := by
  unfold reckList
  rw [e1, h.seek (t := 288) (by decide)]
 rw [e2]
 exact h.fold _
theorem Alk.int {l m : Attrs} (h : Alk l m) {t : Int} (ht : t ≠ 17) : intOf' l t = intOf' m t := by unfold intOf'; rw [h.seek ht]
theorem Alk.kinds {l m : Attrs} (h : Alk l m) : kindsOf l (-1) 0 = kindsOf m (-1) 0 := by
 unfold kindsOf
 rw [h.came 0, h.came 256, h.int (t := 0) (by decide), h.int (t := 256) (by decide)]
theorem Alk.hidden {l m : Attrs} (h : Alk l m) (t : Int) : hiddenOf l t = hiddenOf m t := by
 unfold hiddenOf flagOf
 rw [h.int (t := 0) (by decide), h.seek (t := 259) (by decide), h.seek (t := 354) (by decide)]
theorem Alk.row {l m : Attrs} (h : Alk l m) (hh : hiddenOf l 17 = true) (t : Int) : getRow l t = getRow m t := by
 unfold getRow
 rw [← h.hidden t]
 by_cases ht : t = 17
 · subst ht
   rw [hh]
   have e := h.seek17
   cases h1 : At.seek l 17 <;> cases h2 : At.seek m 17 <;> rw [h1, h2] at e <;> simp at e <;> rfl
 · rw [h.seek ht]
theorem Alk.get {l m : Attrs} (h : Alk l m) (hh : hiddenOf l 17 = true) (ts : List Int) : getOf l ts = getOf m ts := by
 have : ∀ (ts : List Int) (out : Attrs) (rv : Int), getOn l out rv ts = getOn m out rv ts := by
  intro ts
  induction ts with
  | nil => intro out rv; rfl
  | cons t r ih => intro out rv; rw [getOn, getOn, h.row hh t, ih]
 exact this ts [] 0
end Go.Proofs.YtendnkpiidhogaaGreat.At

namespace Go.Proofs.YtendnkpiidhogaaGreat.At
open Go.RowKit Go.Shelf

attribute [local go_sem] Oper.semAt_some

def MadeOf (t l : Attrs) : Prop := ∃ c k all R, kindsOf t (-1) 0 = (c, k, 0) ∧ joinedOf t [] = some all ∧ layOn c k all [] tys = some R ∧ l = reckOf R
def MadeE (t : Attrs) (e : Ending) (w' : World) : Prop := ∃ A1 c1 l rv, e = .returned (.tuple #[.slice A1 (List.length l) c1, .int .i64 rv]) ∧ RA w' (fun b => b < w'.heap.size) A1 c1 l ∧ (rv = 0 → MadeOf t l)
theorem madeE_no {t : Attrs} {rv : Int} {w' : World} (h : rv ≠ 0) : MadeE t (.returned (.tuple #[.slice none 0 0, .int .i64 rv])) w' := ⟨none, 0, [], rv, rfl, RA.nil_ _ _, fun e => absurd e h⟩

set_option maxRecDepth 100000 in
set_option maxHeartbeats 4000000 in
theorem made_bad (P : Nat → Prop) (A : Option Addr) (c : Nat) (t : Attrs) (w : World) (hv : RA w P A c t) (hP : ∀ b, P b → b < w.heap.size) (htl : t.length ≤ 1000)
 (hck : checkOf 1 t (-1) 0 ≠ 0 ∨ joinedOf t [] = none) :
 Calls Tryz.prog 20 #[.int .i64 1, .slice A t.length c, .slice none 0 0, .slice none 0 0] w fun e w' => MadeE t e w' ∧ Below w.heap.size w w' := by
 refine (callsIn_wide (n := 6)).1 ?_
 refine callsIn_of_wp_marks Tryz.func20 rfl trivial ?_ rfl
 simp only [Tryz.ntmps20, List.size_toArray, List.length_cons, List.length_nil, Nat.reduceAdd, Nat.reduceSub, Array.replicate_succ, Array.replicate_zero, List.push_toArray, List.append_toArray, List.nil_append, List.cons_append]
 have HCK := Lib.hid (fun (X : World) (hX : Below w.heap.size w X) => check_any P A c t 1 (-1) 0 X (hv.below hX hP) (fun b hb => Nat.lt_of_lt_of_le (hP b hb) hX.size))
 have HKI := Lib.hid (fun (X : World) (hX : Below w.heap.size w X) => kinds_any P A c t (-1) 0 X (hv.below hX hP) (fun b hb => Nat.lt_of_lt_of_le (hP b hb) hX.size))
 have HJO := Lib.hid (fun (X : World) (hX : Below w.heap.size w X) => joined_any P (fun _ => False) A none c 0 t [] X (hv.below hX hP) (fun b hb => Nat.lt_of_lt_of_le (hP b hb) hX.size) (RA.nil_ _ _) (fun _ h => h.elim) htl (by simp))
 obtain ⟨ck, hc⟩ : ∃ ck, checkOf 1 t (-1) 0 = ck := ⟨_, rfl⟩
 rw [hc] at hck
 have Hck := Lib.hid hck
 have Hc := Lib.hid hc
 clear hv hP htl hck hc
 obtain ⟨h0, h1, h2, h3, hz, hB⟩ := four_at w (.cells #[.slice none 0 0] 24) (.cells #[.int .i64 0] 27) (.cells #[.int .i64 (-1)] 3) (.cells #[.int .i64 0] 3)
 obtain ⟨s, hs⟩ : ∃ s, w.heap.size = s := ⟨_, rfl⟩
 have Hs := Lib.hid hs
 have hsw : s ≤ w.heap.size := by omega
 rw [hs] at h0 h1 h2 h3 hz hB HCK HKI HJO
 clear hs
 gi_wp2
 rw [Hs.out]
 simp only [Nat.add_assoc, Nat.reduceAdd]
 generalize (((w.alloc (.cells #[.slice none 0 0] 24)).alloc (.cells #[.int .i64 0] 27)).alloc (.cells #[.int .i64 (-1)] 3)).alloc (.cells #[.int .i64 0] 3) = W0 at *
 refine ⟨trivial, (callsIn_wide.2 (HCK.out W0 hB)).mono ?_⟩
 rw [Hc.out]
 rintro e W1 ⟨rfl, hB1⟩
 have hz1 := hB1.size
 have H0 := Lib.hid ((hB1.block s (by omega)).trans h0)
 have H1 := Lib.hid ((hB1.block (s + 1) (by omega)).trans h1)
 have H2 := Lib.hid ((hB1.block (s + 2) (by omega)).trans h2)
 have H3 := Lib.hid ((hB1.block (s + 3) (by omega)).trans h3)
 have HB1 := Lib.hid (hB.trans (hB1.mono (by omega)))
 have hs4 : s + 4 ≤ W1.heap.size := by omega
 have c0 := blk_cell H0.out 0
 have c1 := blk_cell H1.out 0
 have c2 := blk_cell H2.out 0
 have c3 := blk_cell H3.out 0
 have f0 := blk_free H0.out 0
 have f1 := blk_free H1.out 0
 simp only [List.getElem?_toArray, List.getElem?_cons_zero] at c0 c1 c2 c3
 clear h0 h1 h2 h3 hz hB hB1 hz1
 by_cases hk0 : ck = 0
 case neg =>
  have k0 : (ck == 0) = false := by simpa using hk0
  have Hk0 := Lib.hid hk0
  clear hk0
  have r0 : ((W1.setCell ⟨s, 0, none⟩ (.slice none 0 0)).setCell ⟨s + 1, 0, none⟩ (.int .i64 ck)).heap[s]? = some (.cells #[.slice none 0 0] 24 (0, 0)) :=
   (Below.heap_setCell _ ⟨s + 1, 0, none⟩ _ s (show s ≠ s + 1 by omega)).trans (by simpa using bset H0.out 0 (.slice none 0 0))
  have r1 : ((W1.setCell ⟨s, 0, none⟩ (.slice none 0 0)).setCell ⟨s + 1, 0, none⟩ (.int .i64 ck)).heap[s + 1]? = some (.cells #[.int .i64 ck] 27 (0, 0)) := by
   have := (Below.heap_setCell W1 ⟨s, 0, none⟩ (.slice none 0 0) (s + 1) (show s + 1 ≠ s by omega)).trans H1.out
   simpa using bset this 0 (.int .i64 ck)
  have q0 := blk_cell r0 0
  have q1 := blk_cell r1 0
  simp only [List.getElem?_toArray, List.getElem?_cons_zero] at q0 q1
  have Q0 := Lib.hid q0
  have Q1 := Lib.hid q1
  clear r0 r1 q0 q1
  gi_wp2
  have q0 := Q0.out
  have q1 := Q1.out
  refine ⟨.tuple #[.slice none 0 0, .int .i64 ck], by simp [results, Tryz.f20, go_sem, q0, q1], madeE_no Hk0.out, ?_⟩
  rw [Hs.out]
  exact (HB1.out.setCell (p := ⟨s, 0, none⟩) (Nat.le_refl _) _).setCell (p := ⟨s + 1, 0, none⟩) (by simp) _
 subst hk0
 have Hj := Lib.hid (Hck.out.resolve_left (fun h => h rfl))
 obtain ⟨K, hK⟩ : ∃ K, kindsOf t (-1) 0 = K := ⟨_, rfl⟩
 obtain ⟨cl, ky, kr⟩ := K
 have hKI := HKI.out W1 HB1.out
 rw [hK] at hKI
 have HKI := Lib.hid hKI
 clear hK hKI
 gi_wp2
 refine ⟨trivial, (callsIn_wide.2 HKI.out).mono ?_⟩
 rintro e W2 ⟨rfl, hB2⟩
 have h0 := (hB2.block s (by omega)).trans H0.out
 have h1 := (hB2.block (s + 1) (by omega)).trans H1.out
 have h2 := (hB2.block (s + 2) (by omega)).trans H2.out
 have h3 := (hB2.block (s + 3) (by omega)).trans H3.out
 have d2 := blk_cell h2 0
 have d3 := blk_cell h3 0
 have e2 := blk_free h2 0
 have e3 := blk_free h3 0
 simp only [List.getElem?_toArray, List.getElem?_cons_zero] at d2 d3
 have g0 : ((W2.setCell ⟨s + 2, 0, none⟩ (.int .i64 cl)).setCell ⟨s + 3, 0, none⟩ (.int .i64 ky)).heap[s]? = some (.cells #[.slice none 0 0] 24 (0, 0)) := (Below.heap_setCell _ ⟨s + 3, 0, none⟩ _ s (show s ≠ s + 3 by omega)).trans ((Below.heap_setCell _ ⟨s + 2, 0, none⟩ _ s (show s ≠ s + 2 by omega)).trans h0)
 have g1 : ((W2.setCell ⟨s + 2, 0, none⟩ (.int .i64 cl)).setCell ⟨s + 3, 0, none⟩ (.int .i64 ky)).heap[s + 1]? = some (.cells #[.int .i64 0] 27 (0, 0)) := (Below.heap_setCell _ ⟨s + 3, 0, none⟩ _ (s + 1) (show s + 1 ≠ s + 3 by omega)).trans ((Below.heap_setCell _ ⟨s + 2, 0, none⟩ _ (s + 1) (show s + 1 ≠ s + 2 by omega)).trans h1)
 have hz2 : s + 4 ≤ ((W2.setCell ⟨s + 2, 0, none⟩ (.int .i64 cl)).setCell ⟨s + 3, 0, none⟩ (.int .i64 ky)).heap.size := by have := hB2.size; simp; omega
 have hB3 : Below s w ((W2.setCell ⟨s + 2, 0, none⟩ (.int .i64 cl)).setCell ⟨s + 3, 0, none⟩ (.int .i64 ky)) := ((HB1.out.trans (hB2.mono (by omega))).setCell (p := ⟨s + 2, 0, none⟩) (by simp) _).setCell (p := ⟨s + 3, 0, none⟩) (by simp) _
 have G0 := Lib.hid g0
 have G1 := Lib.hid g1
 have HB3 := Lib.hid hB3
 clear h0 h1 h2 h3 g0 g1 hB3 hB2 H0 H1 H2 H3 c0 c1 c2 c3 f0 f1
 gi_wp2
 generalize (W2.setCell ⟨s + 2, 0, none⟩ (.int .i64 cl)).setCell ⟨s + 3, 0, none⟩ (.int .i64 ky) = W3 at *
 refine ⟨trivial, (callsIn_wide.2 (HJO.out W3 HB3.out)).mono ?_⟩
 rw [Hj.out]
 rintro e W4 ⟨hJ, hB4⟩
 obtain rfl : e = .returned (.tuple #[.slice none 0 0, .bool false]) := hJ
 have hz4 := hB4.size
 have h0 := (hB4.block s (by omega)).trans G0.out
 have h1 := (hB4.block (s + 1) (by omega)).trans G1.out
 have HB5 := Lib.hid (((HB3.out.trans (hB4.mono (by omega))).alloc (show s ≤ W4.heap.size by omega) (.cells #[.slice none 0 0] 24)))
 have h0 := (Below.heap_alloc W4 (.cells #[.slice none 0 0] 24) s (by omega)).trans h0
 have h1 := (Below.heap_alloc W4 (.cells #[.slice none 0 0] 24) (s + 1) (by omega)).trans h1
 have c0 := blk_cell h0 0
 have c1 := blk_cell h1 0
 have f0 := blk_free h0 0
 have f1 := blk_free h1 0
 simp only [List.getElem?_toArray, List.getElem?_cons_zero] at c0 c1
 have H0 := Lib.hid h0
 have H1 := Lib.hid h1
 clear h0 h1 hB4 G0 G1
 gi_wp2
 have r0 := (Below.heap_setCell ((W4.alloc (.cells #[.slice none 0 0] 24)).setCell ⟨s, 0, none⟩ (.slice none 0 0)) ⟨s + 1, 0, none⟩ (.int .i64 209) s (show s ≠ s + 1 by omega)).trans (show ((W4.alloc (.cells #[.slice none 0 0] 24)).setCell ⟨s, 0, none⟩ (.slice none 0 0)).heap[s]? = some (.cells #[.slice none 0 0] 24 (0, 0)) from by simpa using bset H0.out 0 (.slice none 0 0))
 have r1 := bset ((Below.heap_setCell (W4.alloc (.cells #[.slice none 0 0] 24)) ⟨s, 0, none⟩ (.slice none 0 0) (s + 1) (show s + 1 ≠ s by omega)).trans H1.out) 0 (.int .i64 209)
 have q0 := blk_cell r0 0
 have q1 := blk_cell r1 0
 simp at q0 q1
 refine ⟨.tuple #[.slice none 0 0, .int .i64 209], by simp [results, Tryz.f20, go_sem, q0, q1], madeE_no (by decide), ?_⟩
 rw [Hs.out]
 exact (HB5.out.setCell (p := ⟨s, 0, none⟩) (Nat.le_refl _) _).setCell (p := ⟨s + 1, 0, none⟩) (by simp) _
theorem made_g (P : Nat → Prop) (A : Option Addr) (c : Nat) (t : Attrs) (w : World) (hv : RA w P A c t) (hP : ∀ b, P b → b < w.heap.size) (htl : t.length ≤ 1000) (h17 : came t 17 = true) :
    Calls Tryz.prog 20 #[.int .i64 1, .slice A t.length c, .slice none 0 0, .slice none 0 0] w fun e w' => MadeE t e w' ∧ Below w.heap.size w w' := by
  by_cases h0 : checkOf 1 t (-1) 0 = 0
  rotate_left
  · exact made_bad P A c t w hv hP htl (.inl h0)
  cases hj : joinedOf t [] with
  | none => exact made_bad P A c t w hv hP htl (.inr hj)
  | some all =>
    obtain ⟨⟨cl, ky, kr⟩, hk⟩ : ∃ K, kindsOf t (-1) 0 = K := ⟨_, rfl⟩
    have h3 := check_kinds h0
    rw [hk] at h3
    obtain rfl : kr = 0 := h3
    refine (made_core P A c t all cl ky _ w hv hP htl h0 hk hj rfl (check_kind h0 hk h17) (fun o ho => Short.lay (Short.joined (check_parts h0 hk).1 hj) tys (fun x hx => by cases hx) ho)).mono ?_
    rintro e w' ⟨⟨A1, c1, l, rv, rfl, hr, hm⟩, hB⟩
    refine ⟨⟨A1, c1, l, rv, rfl, hr, fun h => ?_⟩, hB⟩
    subst h
    rcases hm with ⟨_, _, h⟩ | ⟨o, ho, ⟨_, h, _⟩ | ⟨h, _⟩⟩
    · cases h
    · cases h
    · exact ⟨cl, ky, all, o, hk, hj, ho, h⟩
end Go.Proofs.YtendnkpiidhogaaGreat.At

namespace Go.Proofs.YtendnkpiidhogaaGreat.At

theorem ins_mem (a : Int × List Nat) : ∀ l, a ∈ ins a l
  | [] => by rw [ins]; exact List.mem_singleton.2 rfl
  | x :: r => by
    rw [ins]
    split
    · exact List.mem_cons_self ..
    · exact List.mem_cons_of_mem _ (ins_mem a r)
theorem came_17 (l : Attrs) (v : List Nat) : came (putOf l (17, v)) 17 = true := by
 unfold came seek
 rw [Option.isSome_map, List.find?_isSome]
 exact ⟨(17, v), ins_mem _ _, by simp⟩
theorem cut_len (l : Attrs) : (cutOf l 20 600).length ≤ 20 := by simp [cutOf]; omega
theorem put_len (l : Attrs) (v : List Nat) : (putOf (cutOf l 20 600) (17, v)).length ≤ 1000 := Nat.le_trans (length_putOf _ _) (by have := cut_len l; omega)
theorem made_alike {t u l m : Attrs} (h : Alk t u) (h1 : MadeOf t l) (h2 : MadeOf u m) : Alk l m := by
 obtain ⟨c, k, all, R, e1, e2, e3, rfl⟩ := h1
 obtain ⟨c', k', all', R', e1', e2', e3', rfl⟩ := h2
 rw [h.kinds, e1'] at e1
 cases e1
 exact ((h.joined e2 e2').lay tys .nil e3 e3').reck
theorem put_alike (l : Attrs) {a b : List Nat} (h : a.length = b.length) : Alk (putOf l (17, a)) (putOf l (17, b)) := (Alk.refl l).put rfl (fun h => absurd rfl h) h
end Go.Proofs.YtendnkpiidhogaaGreat.At

namespace Go.Proofs.YtendnkpiidhogaaGreat.At
open Go.RowKit Go.Shelf

attribute [local go_sem] Oper.semAt_some

theorem RI.take {w : World} {P : Nat → Prop} {A : Option Addr} {c : Nat} {l : List Int} (h : RI w P A c l) (n : Nat) : RI w P A c (l.take n) := by
 refine ⟨?_, by have := h.2; rw [List.length_take]; omega⟩
 rcases Nat.lt_or_ge n l.length with hn | hn
 · have := h.1.pre (m := n) (by omega)
   simp only [its, ← List.map_take, Nat.mul_one] at this
   have e : (l.take n).length = n := by rw [List.length_take]; omega
   rw [e]; exact this
 · rw [List.take_of_length_le hn]; exact h.1
theorem riUp {w X : World} {A : Option Addr} {c : Nat} {l : List Int} (h : RI w (fun b => b < w.heap.size) A c l) (hE : Ext w X) : RI X (fun b => b < X.heap.size) A c l := (h.below hE (fun _ hb => hb)).mono fun _ hb => Nat.lt_of_lt_of_le hb hE.bsize
theorem put17 {w : World} {A Aa : Option Addr} {c ca : Nat} {l : Attrs} {v : List Nat} (hv : RA w (fun b => b < w.heap.size) A c l) (ha : RB w (fun b => b < w.heap.size) Aa ca v) (hl : l.length ≤ 20) :
 Calls Tryz.prog 18 #[.slice A l.length c, .agg #[.int .i64 17, .slice Aa v.length ca]] w fun e w' => (∃ A' c', e = .returned (.slice A' (putOf l (17, v)).length c') ∧ RA w' (fun b => b < w'.heap.size) A' c' (putOf l (17, v))) ∧ Below w.heap.size w w' :=
 (refPut_any _ A c l (17, v) Aa ca w hv ha (fun b hb => hb) (by omega)).mono fun e w' ⟨A', c', cs, h1, h2, h3⟩ => ⟨⟨A', c', h1, h2.ra.mono fun b hb => hb.elim (fun h => Nat.lt_of_lt_of_le h h3.size) (fun h => h.2)⟩, h3⟩

set_option maxRecDepth 100000 in
set_option maxHeartbeats 8000000 in
theorem ruleSecret_law (A Aa Ab At : Option Addr) (c ca cb ct : Nat) (l : Attrs) (a b : List Nat) (ts : List Int) (w : World) (hv : RA w (fun b => b < w.heap.size) A c l) (ha : RB w (fun b => b < w.heap.size) Aa ca a) (hb : RB w (fun b => b < w.heap.size) Ab cb b) (ht : RI w (fun b => b < w.heap.size) At ct ts) :
 Calls Tryz.prog 5 #[.slice A l.length c, .slice Aa a.length ca, .slice Ab b.length cb, .slice At ts.length ct] w fun e w' => e = .returned (.bool true) ∧ Below w.heap.size w w' := by
 obtain ⟨htc, hct⟩ := ht.cap
 have HL := Lib.hid hv
 have HA := Lib.hid ha
 have HB := Lib.hid hb
 obtain ⟨tt, htt⟩ : ∃ tt, ts.take 20 = tt := ⟨_, rfl⟩
 have HT := Lib.hid (htt ▸ ht.take 20)
 have hn20 : tt.length ≤ 20 := by rw [← htt, List.length_take]; omega
 obtain ⟨na, hna⟩ : ∃ n, a.length = n := ⟨_, rfl⟩
 obtain ⟨nb, hnb⟩ : ∃ n, b.length = n := ⟨_, rfl⟩
 have Hna := Lib.hid hna
 have Hnb := Lib.hid hnb
 rw [hna, hnb]
 by_cases hl : 20 < ts.length
 rotate_left
 have Hn := Lib.hid (show tt.length = ts.length by rw [← htt, List.length_take]; omega)
 have hl' : ¬ (20 : Int) < (ts.length : Int) := by omega
 have k0 : (0 : Int) ≤ 20 := by omega
 have k1 : (0 : Int) ≤ 20 := by omega
 rotate_left
 have Hn := Lib.hid (show tt.length = 20 by rw [← htt, List.length_take]; omega)
 have hl' : (20 : Int) < (ts.length : Int) := by omega
 have k0 : (20 : Int) ≤ (ts.length : Int) := by omega
 have k1 : (20 : Int) ≤ (ct : Int) := by omega
 all_goals
  clear hv ha hb ht htt hna hnb
  go_enter Tryz.func5, Tryz.ntmps5
  go_wp2_with fail
  refine (begun18_any w).mono ?_
  rintro e w1 ⟨rfl, hB1⟩
  have HE1 := Lib.hid hB1
  have HL1 := Lib.hid (raUp HL.out hB1)
  have HA1 := Lib.hid (rbUp HA.out hB1)
  have HB1 := Lib.hid (rbUp HB.out hB1)
  have HT1 := Lib.hid (riUp HT.out hB1)
  clear hB1 HL HA HB HT
  go_wp2_with fail
  refine (cut18_any _ A c l w1 HL1.out (fun b hb => hb)).mono ?_
  obtain ⟨lc, hlc⟩ : ∃ lc, cutOf l 20 600 = lc := ⟨_, rfl⟩
  have Hlc := Lib.hid (show lc.length ≤ 20 from hlc ▸ cut_len l)
  rw [hlc]
  have Hcc := Lib.hid hlc
  clear hlc
  rintro e w2 ⟨⟨A2, c2, rfl, hr2⟩, hB2⟩
  have HP := Lib.hid (put17 hr2 (rbUp HA1.out hB2) Hlc.out)
  rw [Hna.out] at HP
  have HE2 := Lib.hid (Ext.trans HE1.out hB2)
  have HL2 := Lib.hid (raUp HL1.out hB2)
  have HB2 := Lib.hid (rbUp HB1.out hB2)
  have HT2 := Lib.hid (riUp HT1.out hB2)
  clear hB2 hr2 HL1 HA1 HB1 HT1 HE1
  go_wp2_with fail
  refine HP.out.mono ?_
  obtain ⟨la, hla⟩ : ∃ la, putOf lc (17, a) = la := ⟨_, rfl⟩
  rw [hla]
  have Hla := Lib.hid hla
  clear hla HP
  rintro e w3 ⟨⟨A3, c3, rfl, hr3⟩, hB3⟩
  have HE3 := Lib.hid (Ext.trans HE2.out hB3)
  have HO3 := Lib.hid hr3
  have HC := Lib.hid (cut18_any _ A c l w3 (raUp HL2.out hB3) (fun b hb => hb))
  rw [Hcc.out] at HC
  have HB3 := Lib.hid (rbUp HB2.out hB3)
  have HT3 := Lib.hid (riUp HT2.out hB3)
  clear hB3 hr3 HL2 HB2 HT2 HE2
  go_wp2_with fail
  refine HC.out.mono ?_
  rintro e w4 ⟨⟨A4, c4, rfl, hr4⟩, hB4⟩
  have HP := Lib.hid (put17 hr4 (rbUp HB3.out hB4) Hlc.out)
  rw [Hnb.out] at HP
  have HE4 := Lib.hid (Ext.trans HE3.out hB4)
  have HO4 := Lib.hid (raUp HO3.out hB4)
  have HT4 := Lib.hid (riUp HT3.out hB4)
  clear hB4 hr4 HB3 HT3 HE3 HO3 HC
  go_wp2_with fail
  refine HP.out.mono ?_
  obtain ⟨lb, hlb⟩ : ∃ lb, putOf lc (17, b) = lb := ⟨_, rfl⟩
  rw [hlb]
  have Hlb := Lib.hid hlb
  clear hlb HP
  rintro e w5 ⟨⟨A5, c5, rfl, hr5⟩, hB5⟩
  have HE5 := Lib.hid (Ext.trans HE4.out hB5)
  have HM := Lib.hid (made_g _ A3 c3 la w5 (raUp HO4.out hB5) (fun b hb => hb) (by rw [← Hla.out, ← Hcc.out]; exact put_len l a) (by rw [← Hla.out]; exact came_17 _ _))
  have HO5 := Lib.hid hr5
  have HT5 := Lib.hid (riUp HT4.out hB5)
  clear hB5 hr5 HT4 HE4 HO4
  go_wp2_with fail
  refine HM.out.mono ?_
  rintro e w6 ⟨⟨A6, c6, x, rv, rfl, hr6, hm6⟩, hB6⟩
  have HE6 := Lib.hid (Ext.trans HE5.out hB6)
  have HM := Lib.hid (made_g _ A5 c5 lb w6 (raUp HO5.out hB6) (fun b hb => hb) (by rw [← Hlb.out, ← Hcc.out]; exact put_len l b) (by rw [← Hlb.out]; exact came_17 _ _))
  have HX6 := Lib.hid hr6
  have Hm6 := Lib.hid hm6
  have HT6 := Lib.hid (riUp HT5.out hB6)
  clear hB6 hr6 hm6 HT5 HE5 HO5
  go_wp2_with fail
  refine HM.out.mono ?_
  rintro e w7 ⟨⟨A7, c7, y, rw_, rfl, hr7, hm7⟩, hB7⟩
  have HE7 := Lib.hid (Ext.trans HE6.out hB7)
  have HX7 := Lib.hid (raUp HX6.out hB7)
  have HY7 := Lib.hid hr7
  have Hm7 := Lib.hid hm7
  have HT7 := Lib.hid (riUp HT6.out hB7)
  clear hB7 hr7 hm7 HT6 HE6 HX6 HM
  by_cases h1 : rv = 0
  rotate_left
  · have k2 : (rv != 0) = true := by simpa using h1
    clear h1
    go_wp2
    go_ret
    exact ⟨rfl, HE7.out⟩
  have Hmx := Lib.hid (Hm6.out h1)
  subst h1
  by_cases h2 : rw_ = 0
  rotate_left
  · have k2 : (rw_ != 0) = true := by simpa using h2
    clear h2
    go_wp2
    go_ret
    exact ⟨rfl, HE7.out⟩
  have Hmy := Lib.hid (Hm7.out h2)
  subst h2
  by_cases h3 : na = nb
  rotate_left
  · have k2 : ((na : Int) != (nb : Int)) = true := by simpa using (show ¬ (na : Int) = nb by omega)
    have k3 : (na != nb) = true := by simpa using h3
    clear h3
    go_wp2
    go_ret
    exact ⟨rfl, HE7.out⟩
  have Hal := Lib.hid (made_alike (put_alike lc (Hna.out.trans (h3.trans Hnb.out.symm))) (by rw [Hla.out]; exact Hmx.out) (by rw [Hlb.out]; exact Hmy.out))
  subst h3
  have HH := Lib.hid (hidden_any _ A6 c6 x 17 w7 HX7.out (fun b hb => hb))
  obtain ⟨hd, hhd⟩ : ∃ hd, hiddenOf x 17 = hd := ⟨_, rfl⟩
  rw [hhd] at HH
  have Hhd := Lib.hid hhd
  clear hhd Hm6 Hm7 Hmx Hmy
  go_wp2_with fail
  refine HH.out.mono ?_
  rintro e w8 ⟨rfl, hB8⟩
  have HE8 := Lib.hid (Ext.trans HE7.out hB8)
  have HX8 := Lib.hid (raUp HX7.out hB8)
  have HY8 := Lib.hid (raUp HY7.out hB8)
  have HT8 := Lib.hid (riUp HT7.out hB8)
  clear hB8 HT7 HE7 HX7 HY7 HH
  cases hd
  · go_wp2
    go_ret
    exact ⟨rfl, HE8.out⟩
  have HG := Lib.hid (rget_any _ _ A6 At c6 ct x tt w8 HX8.out (fun b hb => hb) HT8.out (fun b hb => hb) (by omega))
  have HGy := Lib.hid (fun X (hX : Ext w8 X) => rget_any _ _ A7 At c7 ct y tt X (raUp HY8.out hX) (fun b hb => hb) (riUp HT8.out hX) (fun b hb => hb) (by omega))
  rw [← Hal.out.get Hhd.out] at HGy
  rw [Hn.out] at HG HGy
  obtain ⟨G, hG⟩ : ∃ G, getOf x tt = G := ⟨_, rfl⟩
  rw [hG] at HG
  simp only [hG] at HGy
  clear hG
  obtain ⟨gl, gr⟩ := G
  go_wp2_with fail
  refine HG.out.mono ?_
  rintro e w9 ⟨A9, c9, rfl, hr9, hB9⟩
  have HE9 := Lib.hid (Ext.trans HE8.out hB9)
  have HR9 := Lib.hid (hr9.mono (P' := fun b => b < w9.heap.size) fun b hb => hb.2)
  have HGy := Lib.hid (HGy.out w9 hB9)
  clear hB9 hr9 HG HE8
  go_wp2_with fail
  refine HGy.out.mono ?_
  rintro e w10 ⟨A10, c10, rfl, hr10, hB10⟩
  have HE10 := Lib.hid (Ext.trans HE9.out hB10)
  have HQ := Lib.hid (eq_any _ _ A9 A10 c9 c10 gl gl w10 (raUp HR9.out hB10) hr10)
  clear hB10 hr10 HGy HE9 HR9
  go_wp2_with fail
  refine HQ.out.mono ?_
  simp only [decide_true]
  rintro e w11 ⟨rfl, d11, rfl⟩
  go_wp2
  go_ret
  exact ⟨rfl, below_drewN HE10.out _⟩
end Go.Proofs.YtendnkpiidhogaaGreat.At

namespace Go.Proofs.YtendnkpiidhogaaGreat.At
open Go.ChangeShapes Go.WideShapes Go.ChangeAt Go.RowKit Go.Deep Go.Joins

set_option maxRecDepth 100000
section
variable {H : Type} {enc : TypeId × Value → H} {P : Program} {w : World} {base : Nat} {spare : Nat → Bool} {held : Bool}
theorem open_slice_fields {t e : TypeId} {fs : Array Field} {fuel : Nat} {cs : List Value} {x : DataW H × List MemPlace} (ht : P.underlying t = some (.slice e)) (he : P.underlying e = some (.struct fs))
    (hone : oneCellFields P fs = true) (hC : P.cellsOf e = fs.size) (h : DataW.trod enc P w base spare held fuel t cs = some x) :
    (cs = [.slice none 0 0] ∧ x = (.nil, [])) ∨
    ∃ (a : Addr) (len cap m : Nat) (D : Nat → DataW H) (Pl : Nat → List MemPlace), cs = [.slice (some a) len cap] ∧ base ≤ a.block ∧ len ≤ cap ∧ cap ≤ maxLen ∧ m = (if spare a.block then cap else len) ∧
      x = (.slice ((List.range len).map D) ((List.range (m - len)).map fun j => D (len + j)), MemPlace.row a (m * fs.size) ++ (List.range m).flatMap Pl) ∧
      ∀ i, i < m → ∃ (ys : List (DataW H × List MemPlace)) (n : Nat), D i = .agg (ys.map (·.1)) ∧ Pl i = ys.flatMap (·.2) ∧ ys.length = fs.size ∧
        ∀ (j : Nat) (f : Field), fs[j]? = some f → ∃ (v : Value) (y : DataW H × List MemPlace), w.cell? (a.add (i * fs.size + j)) = some v ∧ ys[j]? = some y ∧ DataW.trod enc P w base spare held n f.type [v] = some y := by
  rcases open_slice ht h with h0 | ⟨a, len, cap, m, n, D, Pl, hcs, hb, hl, hm, hmm, hx, hi⟩
  · exact .inl h0
  · refine .inr ⟨a, len, cap, m, D, Pl, hcs, hb, hl, hm, hmm, by rw [hC] at hx; exact hx, fun i him => ?_⟩
    obtain ⟨cs', hc, ht'⟩ := hi i him
    rw [hC] at hc
    obtain ⟨ys, n', hn', hy, hlen, hyl, hf⟩ := DataW.trod_struct he ht'
    obtain ⟨_, hcl, hat⟩ := World.cells?_some hc
    simp only [Prod.mk.injEq] at hy
    refine ⟨ys, n', hy.1, hy.2, hyl, fun j f hj => ?_⟩
    obtain ⟨ho, hk⟩ := hone_of hone j f hj
    have hjl : j < fs.size := (Array.getElem?_eq_some_iff.1 hj).1
    have hcell := hat j hjl
    have hv : cs'[j]? = some (cs'[j]'(by omega)) := List.getElem?_eq_getElem (by omega)
    have h1 := hf j f hj
    rw [ho, hk] at h1
    have hone' : (cs'.drop j).take 1 = [cs'[j]'(by omega)] := by
      rw [List.drop_eq_getElem_cons (by omega)]
      rfl
    rw [hone'] at h1
    have hys : ys[j]? = some (ys[j]'(by omega)) := List.getElem?_eq_getElem (by omega)
    refine ⟨_, _, ?_, hys, h1.trans hys⟩
    rw [← Go.Deep.add_add, hcell, hv]
end

section
variable {H : Type} {enc : TypeId × Value → H} {w : World}
theorem cells5 : Tryz.prog.cellsOf 5 = 1 := by kernel_rfl
theorem cells48 : Tryz.prog.cellsOf 37 = 2 := by kernel_rfl
theorem bytes5 : Tryz.prog.bytesOf 5 = 1 := by kernel_rfl

def Fits (t : TypeId) (d : DataW H) : Prop := ∀ k ∈ DataW.weights Tryz.prog t d, k ≤ reachBytes

theorem open_bytes {fuel : Nat} {v : Value} {x : DataW H × List MemPlace} (h : DataW.trod enc Tryz.prog w 0 (fun _ => true) true fuel 33 [v] = some x) (hw : Fits 33 x.1) :
 ∃ A c bs, v = .slice A bs.length c ∧ RB w (fun b => b < w.heap.size) A c bs := by
 rcases open_ints Tryz.underlying33 Tryz.underlying5 cells5 h with ⟨hcs, _⟩ | ⟨a, len, cap, zs, hcs, _, hl, hm, hz, hx, hcell, hwz⟩
 · simp at hcs
   exact ⟨none, 0, [], by simpa using hcs, RB.nil_ _ _⟩
 · simp at hcs hz
   have hb : zs.length ≤ reachBytes := by
    subst hx
    have := hw ((lits (H := H) .u8 (zs.take len)).length * 1 + (lits (H := H) .u8 (zs.drop len)).length * 1) (by simp [DataW.weights, Tryz.underlying33, bytes5])
    simp [lits] at this
    omega
   unfold reachBytes at hb
   have hwf : ∀ i (hi : i < zs.length), 0 ≤ zs[i] ∧ zs[i] < 256 := fun i hi => by
    have := bounds_u8 (hwz _ (List.getElem_mem hi))
    omega
   refine ⟨some a, cap, (zs.take len).map Int.toNat, ?_, ⟨by simp; omega, hm, by simp [bys], fun hn => ⟨a, rfl, ?_, fun j u hu => ?_⟩⟩, ?_, by simp; omega⟩
   · rw [hcs]; simp; omega
   · have h0 := hcell 0 (by simp at hn; omega)
     have := World.block_lt_of_cell? w _ h0
     rwa [block_of_add] at this
   · have hj : j < len := by
      have := (List.getElem?_eq_some_iff.1 hu).1
      simp [bys] at this
      omega
     have hjz : j < zs.length := by omega
     rw [hcell j hjz]
     have := hwf j hjz
     simp [bys, hj, List.getElem?_eq_getElem hjz] at hu
     rw [← hu]
     simp [List.getD, List.getElem?_eq_getElem hjz]
     omega
   · intro b hb
     obtain ⟨z, hz, rfl⟩ := List.mem_map.1 hb
     obtain ⟨i, hi, rfl⟩ := List.getElem_of_mem (List.mem_of_mem_take hz)
     have := hwf i hi
     omega

theorem pairs_get (f g : Nat → Value) : ∀ n, ((List.range n).flatMap fun i => [f i, g i]).length = n * 2 ∧ ∀ j, j < n → ((List.range n).flatMap fun i => [f i, g i])[j * 2]? = some (f j) ∧ ((List.range n).flatMap fun i => [f i, g i])[j * 2 + 1]? = some (g j) := by
  intro n
  induction n with
  | zero => exact ⟨rfl, fun j hj => absurd hj (by omega)⟩
  | succ n ih =>
    obtain ⟨h1, h2⟩ := ih
    rw [List.range_succ, List.flatMap_append]
    refine ⟨by rw [List.length_append, h1]; simp; omega, fun j hj => ?_⟩
    rcases Nat.lt_or_ge j n with hjn | hjn
    · rw [List.getElem?_append_left (by omega), List.getElem?_append_left (by omega)]
      exact h2 j hjn
    · obtain rfl : j = n := by omega
      rw [List.getElem?_append_right (by omega), List.getElem?_append_right (by omega), h1]
      simp

theorem hone48 : ∃ f0 f1, Tryz.prog.underlying 37 = some (.struct #[f0, f1]) ∧ oneCellFields Tryz.prog #[f0, f1] = true ∧ f0.type = 3 ∧ f1.type = 33 :=
 ⟨_, _, Tryz.underlying37, by kernel_rfl, rfl, rfl⟩

theorem open_attrs {fuel : Nat} {v : Value} {x : DataW H × List MemPlace} (h : DataW.trod enc Tryz.prog w 0 (fun _ => true) true fuel 24 [v] = some x) (hw : Fits 24 x.1) :
    ∃ A c l, v = .slice A l.length c ∧ RA w (fun b => b < w.heap.size) A c l := by
  obtain ⟨f0, f1, hu, hone, ht0, ht1⟩ := hone48
  rcases open_slice_fields Tryz.underlying24 hu hone cells48 h with ⟨hcs, _⟩ | ⟨a, len, cap, m, D, Pl, hcs, _, hl, hm, hmm, hx, hi⟩
  · simp at hcs
    exact ⟨none, 0, [], by simpa using hcs, RA.nil_ _ _⟩
  · simp at hcs hmm
    subst hmm
    have each : ∀ i, i < len → ∃ (y : Int × List Nat) (A : Option Addr) (c : Nat), w.cell? (a.add (i * 2 + 0)) = some (.int .i64 y.1) ∧ w.cell? (a.add (i * 2 + 1)) = some (.slice A y.2.length c) ∧ RB w (fun b => b < w.heap.size) A c y.2 := by
      intro i hil
      obtain ⟨ys, n, hD, hP, hyl, hf⟩ := hi i (by omega)
      obtain ⟨v0, y0, hc0, hy0, hr0⟩ := hf 0 f0 rfl
      obtain ⟨v1, y1, hc1, hy1, hr1⟩ := hf 1 f1 rfl
      rw [ht0] at hr0
      rw [ht1] at hr1
      obtain ⟨k, hk, _, _⟩ := DataW.trod_int Tryz.underlying3 hr0
      have hkv : v0 = .int .i64 k := by simpa using hk
      have hfit : Fits 33 y1.1 := by
        intro q hq
        apply hw
        rw [hx]
        have hmem : D i ∈ (List.range len).map D := List.mem_map.2 ⟨i, List.mem_range.2 hil, rfl⟩
        have hsub : q ∈ DataW.weights Tryz.prog 37 (D i) := by
          rw [hD]
          have hys : ys = [y0, y1] := by
            match ys, hyl with
            | [z0, z1], _ => simp at hy0 hy1; rw [hy0, hy1]
          rw [hys]
          simp only [DataW.weights, hu, List.map_cons, List.map_nil, DataW.weightsEach, ht1, List.mem_append]
          exact .inr (.inl hq)
        have hall : ∀ (ds : List (DataW H)) (d : DataW H), d ∈ ds → q ∈ DataW.weights Tryz.prog 37 d → q ∈ DataW.weightsAll Tryz.prog 37 ds := by
          intro ds
          induction ds with
          | nil => intro d hd; cases hd
          | cons e r ih =>
            intro d hd hq
            simp only [DataW.weightsAll, List.mem_append]
            rcases List.mem_cons.1 hd with rfl | hd
            · exact .inl hq
            · exact .inr (ih d hd hq)
        simp only [DataW.weights, Tryz.underlying24, List.mem_cons, List.mem_append]
        exact .inr (.inl (hall _ _ hmem hsub))
      obtain ⟨A, c, bs, hv, hb⟩ := open_bytes hr1 hfit
      exact ⟨(k, bs), A, c, by rw [hkv] at hc0; exact hc0, by rw [hv] at hc1; exact hc1, hb⟩
    obtain ⟨F, hF⟩ : ∃ F : Nat → (Int × List Nat) × Option Addr × Nat, ∀ i, i < len → w.cell? (a.add (i * 2 + 0)) = some (.int .i64 (F i).1.1) ∧ w.cell? (a.add (i * 2 + 1)) = some (.slice (F i).2.1 (F i).1.2.length (F i).2.2) ∧ RB w (fun b => b < w.heap.size) (F i).2.1 (F i).2.2 (F i).1.2 := by
      refine ⟨fun i => if h : i < len then ((each i h).choose, (each i h).choose_spec.choose, (each i h).choose_spec.choose_spec.choose) else ((0, []), none, 0), fun i h => ?_⟩
      simp only [h, dite_true]
      exact (each i h).choose_spec.choose_spec.choose_spec
    obtain ⟨hlen, hget⟩ := pairs_get (fun i => .int .i64 (F i).1.1) (fun i => .slice (F i).2.1 (F i).1.2.length (F i).2.2) len
    refine ⟨some a, m, (List.range len).map fun i => (F i).1, by rw [hcs]; simp, (List.range len).flatMap (fun i => [.int .i64 (F i).1.1, .slice (F i).2.1 (F i).1.2.length (F i).2.2]), ⟨by simp; omega, hm, ?_, fun hn => ⟨a, rfl, ?_, fun j u hu => ?_⟩⟩, fun j y hy => ?_⟩
    · rw [hlen]; simp
    · have h0 := (hF 0 (by simp at hn; omega)).1
      have := World.block_lt_of_cell? w _ h0
      rwa [block_of_add] at this
    · have hj : j < len * 2 := by
        have := (List.getElem?_eq_some_iff.1 hu).1
        omega
      obtain ⟨g0, g1⟩ := hget (j / 2) (by omega)
      obtain ⟨k0, k1, _⟩ := hF (j / 2) (by omega)
      rcases Nat.mod_two_eq_zero_or_one j with e | e
      · rw [show j / 2 * 2 = j by omega, hu] at g0
        rw [show j / 2 * 2 + 0 = j by omega] at k0
        rw [k0, ← g0]
      · rw [show j / 2 * 2 + 1 = j by omega, hu] at g1
        rw [show j / 2 * 2 + 1 = j by omega] at k1
        rw [k1, ← g1]
    · have hj : j < len := by
        have := (List.getElem?_eq_some_iff.1 hy).1
        simp at this
        exact this
      simp [hj] at hy
      subst hy
      obtain ⟨g0, g1⟩ := hget j hj
      exact ⟨g0, _, _, g1, (hF j hj).2.2⟩

end
end Go.Proofs.YtendnkpiidhogaaGreat.At

namespace Go.Proofs.YtendnkpiidhogaaGreat.At
open Go.ChangeShapes Go.WideShapes Go.ChangeAt Go.RowKit Go.Deep Go.Joins

section
variable {H : Type} {enc : TypeId × Value → H} {w : World}
theorem cells3 : Tryz.prog.cellsOf 3 = 1 := by kernel_rfl
theorem bytes3 : Tryz.prog.bytesOf 3 = 8 := by kernel_rfl
theorem open_intl {fuel : Nat} {v : Value} {x : DataW H × List MemPlace} (h : DataW.trod enc Tryz.prog w 0 (fun _ => true) true fuel 25 [v] = some x) (hw : Fits 25 x.1) :
 ∃ A c l, v = .slice A (List.length l) c ∧ RI w (fun b => b < w.heap.size) A c l := by
 rcases open_ints Tryz.underlying25 Tryz.underlying3 cells3 h with ⟨hcs, _⟩ | ⟨a, len, cap, zs, hcs, _, hl, hm, hz, hx, hcell, _⟩
 · simp at hcs
   exact ⟨none, 0, [], by simpa using hcs, ⟨Nat.le_refl _, by unfold maxLen; omega, rfl, fun h => absurd h (by simp)⟩, by simp⟩
 · simp at hcs hz
   have hb : zs.length * 8 ≤ reachBytes := by
    subst hx
    have := hw (((lits (H := H) .i64 (zs.take len)).length + (lits (H := H) .i64 (zs.drop len)).length) * 8) (by simp [DataW.weights, Tryz.underlying25, bytes3])
    simp [lits] at this
    omega
   unfold reachBytes at hb
   refine ⟨some a, cap, zs.take len, ?_, ⟨by simp; omega, hm, by simp [its], fun hn => ⟨a, rfl, ?_, fun j u hu => ?_⟩⟩, by simp; omega⟩
   · rw [hcs]; simp; omega
   · have h0 := hcell 0 (by simp at hn; omega)
     have := World.block_lt_of_cell? w _ h0
     rwa [block_of_add] at this
   · have hj : j < len := by
      have := (List.getElem?_eq_some_iff.1 hu).1
      simp [its] at this
      omega
     have hjz : j < zs.length := by omega
     rw [hcell j hjz]
     simp [its, hj, List.getElem?_eq_getElem hjz] at hu
     rw [← hu]
     simp [List.getD, List.getElem?_eq_getElem hjz]

theorem RAA.nil_ (w : World) (P : Nat → Prop) : RAA w P none 0 [] [] := ⟨⟨Nat.le_refl _, by unfold maxLen; omega, rfl, fun h => absurd h (by simp)⟩, by simp⟩

end
end Go.Proofs.YtendnkpiidhogaaGreat.At

namespace Go.Proofs.YtendnkpiidhogaaGreat.ruleSecret
open Go.ChangeShapes Go.WideShapes Go.ChangeAt Go.RowKit At

theorem own : ownKnob Tryz.prog.godebug = none := by kernel_rfl
theorem laidOut : laidOutB Tryz.prog = true := by kernel_rfl

set_option maxRecDepth 100000 in
theorem lifted (os : Os) (started : os.Started) (H : Type) (enc : TypeId × Value → H) :
 ReturnsInHanded {} Tryz.checked os 5 .any (Rows.ruleSecretSpec.pre6 enc Tryz.prog Tryz.f5 Rows.ruleSecretRow.domain false) (Rows.ruleSecretSpec.post enc Tryz.prog Tryz.f5 false true false false) := by
 refine returnsInHanded_of_change_sized (C := Tryz.checked) own started (by kernel_rfl) Tryz.func5
  (ChangeSpec.witness6 (enc := enc) (C := Tryz.checked) false ⟨#[], #[.slice none 0 0, .slice none 0 0, .slice none 0 0, .slice none 0 0], []⟩ 8 (by kernel_rfl) (by kernel_rfl) (by kernel_rfl) (by kernel_rfl)) ?_
 intro W base args ds gs before hval0 hW hcnd hsz0 _
 have hval : ∀ (j : Nat) t v, Tryz.f5.params[j]? = some t → args[j]? = some v → Value.okWide Tryz.prog W .any base t v := hval0
 have hsz : (DataW.weightsEach Tryz.prog (Tryz.f5.params.toList ++ Rows.ruleSecretSpec.plain.varTypes Tryz.prog) (ds ++ gs)).all (· ≤ reachBytes) = true := hsz0
 have hW' := hW
 obtain ⟨p, q, hA0, hV, rfl, hfz, hnd⟩ := hW
 have hA : DataW.TrodAll enc Tryz.prog W 0 (fun _ => true) true Tryz.f5.params.toList args.toList ds p := hA0
 rw [Tryz.params5] at hA hval hsz
 obtain ⟨v0, vs0, d0, ds0, p0, q0, hargs, rfl, rfl, h0, r0⟩ := trodAll_cons hA
 obtain ⟨v1, vs1, d1, ds1, p1, q1, rfl, rfl, rfl, h1, r1⟩ := trodAll_cons r0
 obtain ⟨v2, vs2, d2, ds2, p2, q2, rfl, rfl, rfl, h2, r2⟩ := trodAll_cons r1
 obtain ⟨v3, vs3, d3, ds3, p3, q3, rfl, rfl, rfl, h3, r3⟩ := trodAll_cons r2
 obtain ⟨rfl, rfl, rfl⟩ := trodAll_nil r3
 obtain rfl : args = #[v0, v1, v2, v3] := by cases args; simp_all
 obtain ⟨rfl, rfl⟩ := trodVars_none hV
 have k0 := h0
 have lt0 : ∀ x ∈ p0, x.block < W.heap.size := by obtain ⟨m, hm⟩ := k0; exact DataW.trod_lt m _ _ _ hm
 have k1 := h1
 have lt1 : ∀ x ∈ p1, x.block < W.heap.size := by obtain ⟨m, hm⟩ := k1; exact DataW.trod_lt m _ _ _ hm
 have k2 := h2
 have lt2 : ∀ x ∈ p2, x.block < W.heap.size := by obtain ⟨m, hm⟩ := k2; exact DataW.trod_lt m _ _ _ hm
 have k3 := h3
 have lt3 : ∀ x ∈ p3, x.block < W.heap.size := by obtain ⟨m, hm⟩ := k3; exact DataW.trod_lt m _ _ _ hm
 have fit : ∀ (j : Nat) (t : TypeId) (d : DataW H), [24, 33, 33, 25][j]? = some t → [d0, d1, d2, d3][j]? = some d → Fits t d := fun j t d ht hd k hk => by
  have := List.all_eq_true.1 hsz k (DataW.weights_mem_each (ts := [24, 33, 33, 25]) (ds := [d0, d1, d2, d3]) ht hd k hk)
  simpa using this
 obtain ⟨a0, len0, cap0, e0⟩ := okWide_slice Tryz.underlying24 (hval 0 24 v0 rfl rfl)
 obtain ⟨A0, c0, l0, hv0, hR0⟩ : ∃ A c l, v0 = .slice A (List.length l) c ∧ RA W (fun b => b < W.heap.size) A c l := by
  obtain ⟨fuel, hf⟩ := h0
  rw [e0] at hf ⊢
  exact open_attrs hf (fit 0 _ _ rfl rfl)
 obtain ⟨a1, len1, cap1, e1⟩ := okWide_slice Tryz.underlying33 (hval 1 33 v1 rfl rfl)
 obtain ⟨A1, c1, l1, hv1, hR1⟩ : ∃ A c l, v1 = .slice A (List.length l) c ∧ RB W (fun b => b < W.heap.size) A c l := by
  obtain ⟨fuel, hf⟩ := h1
  rw [e1] at hf ⊢
  exact open_bytes hf (fit 1 _ _ rfl rfl)
 obtain ⟨a2, len2, cap2, e2⟩ := okWide_slice Tryz.underlying33 (hval 2 33 v2 rfl rfl)
 obtain ⟨A2, c2, l2, hv2, hR2⟩ : ∃ A c l, v2 = .slice A (List.length l) c ∧ RB W (fun b => b < W.heap.size) A c l := by
  obtain ⟨fuel, hf⟩ := h2
  rw [e2] at hf ⊢
  exact open_bytes hf (fit 2 _ _ rfl rfl)
 obtain ⟨a3, len3, cap3, e3⟩ := okWide_slice Tryz.underlying25 (hval 3 25 v3 rfl rfl)
 obtain ⟨A3, c3, l3, hv3, hR3⟩ : ∃ A c l, v3 = .slice A (List.length l) c ∧ RI W (fun b => b < W.heap.size) A c l := by
  obtain ⟨fuel, hf⟩ := h3
  rw [e3] at hf ⊢
  exact open_intl hf (fit 3 _ _ rfl rfl)
 clear hA0 hval0
 subst hv0 hv1 hv2 hv3
 refine (At.ruleSecret_law A0 A1 A2 A3 c0 c1 c2 c3 l0 l1 l2 l3 W hR0 hR1 hR2 hR3).mono fun e W' ⟨he, bel⟩ => ?_
 subst he
 exact ⟨_, rfl, _, _, _, [], _, [], hW', trodAll_mk1 (shut_bool Tryz.underlying4 _), (trodAll_cons_mk (Below.trod laidOut (by kernel_rfl) (of_decide_eq_true (by kernel_rfl)) k0 bel lt0) (trodAll_cons_mk (Below.trod laidOut (by kernel_rfl) (of_decide_eq_true (by kernel_rfl)) k1 bel lt1) (trodAll_cons_mk (Below.trod laidOut (by kernel_rfl) (of_decide_eq_true (by kernel_rfl)) k2 bel lt2) (trodAll_cons_mk (Below.trod laidOut (by kernel_rfl) (of_decide_eq_true (by kernel_rfl)) k3 bel lt3) trodAll_mk0)))), rfl, bel.frame _, fun h => by cases h⟩

theorem over : Rows.ruleSecretRow.holds Tryz.pinned (OpenSpec.ofChange Rows.ruleSecretSpec) :=
 OpenClaim.holds_of_wide 5 Tryz.f5 rfl rfl rfl rfl rfl rfl rfl ⟨rfl, rfl, rfl, rfl, rfl⟩ rfl rfl rfl rfl rfl (by kernel_rfl) Tryz.func5 (by kernel_rfl)
  (of_decide_eq_true (by kernel_rfl)) (by unfold Func.isWrapper; first | (rw [if_pos (by decide +kernel)]; kernel_rfl) | (rw [if_neg (by decide +kernel)]; exact ⟨rfl, rfl⟩))
  (fun os started H enc _ => lifted os started H enc)

theorem proved : Rows.RuleSecretSaid := over
#print axioms proved
end Go.Proofs.YtendnkpiidhogaaGreat.ruleSecret
