/- find.New: the first hits of an iterator, kept. -/
import Derived.Test.YtpikikaoelnheaaFilter
import Derived.Test.YtpikikaoelnheaaInsert2
import Derived.Test.YtpikikaoelnheaaRound
import Derived.Sort.CutIn
import Derived.RegionIn
import Derived.WalkMore
import Derived.ControlIn
import Derived.Deep.DeepMust
namespace Go.Proofs.Ytpikikaoelnheaa
open Go.RowKit Go.Shelf

attribute [local go_sem] Oper.semAt_some

/-- append, kept shut for the walk: its answer is laid as an equation. -/
def Shut (ts : Array TypeId) (ty : TypeId) (vs : Array Value) : Sem Value := Builtin.append_ ts ty vs
theorem shut_append (ts : Array TypeId) (ty : TypeId) (vs : Array Value) : Builtin.append_ ts ty vs = Shut ts ty vs := rfl
attribute [local go_sem ↓] shut_append

theorem its_length (l : List Int) : (its l).length = l.length := by simp [its]
theorem oneCell_its (l : List Int) : ∀ u ∈ its l, u.oneCell' = true := by
  intro u hu
  obtain ⟨x, _, rfl⟩ := List.mem_map.1 hu
  rfl
theorem its_snoc {l : List Int} {k : Nat} (h : k < l.length) : its (l.take k) ++ [.int .i64 (l.getD k 0)] = its (l.take (k + 1)) := by
  rw [List.take_succ_eq_append_getElem h, List.getD_eq_getElem?_getD, List.getElem?_eq_getElem h]
  simp only [its, List.map_append, List.map_cons, List.map_nil, Option.getD_some]
/-- A search that has kept l: block g, its row from block base on. -/
def Srch (w : World) (g base : Nat) (l : List Int) : Prop := ∃ A c, w.heap[g]? = some (.cells #[.slice A l.length c] 71 (0, 0)) ∧ w.ownsRow base 3 1 (.slice A l.length c) l.length (its l)
theorem Srch.same {w w' : World} {g base : Nat} {l : List Int} (h : Srch w g base l) (hb : g ≤ base) (hs : ∀ (b : Nat) (o : Obj), g ≤ b → w.heap[b]? = some o → o.isCells = true → w'.heap[b]? = some o) : Srch w' g base l := by
  obtain ⟨A, c, h1, h2, h3⟩ := h
  refine ⟨A, c, hs g _ (Nat.le_refl _) h1 rfl, h2, ?_⟩
  rcases h3 with h3 | ⟨g', cap, cur, e1, h4, h5, h6⟩
  · exact .inl h3
  · exact .inr ⟨g', cap, cur, e1, h4, hs g' _ (by omega) h5 rfl, h6⟩
theorem keeps_grown {B C m : Nat} {W W' : World} {row : Option Nat} (hg : W.grownBy W' row) (hr : ∀ r, row = some r → C + m ≤ r ∧ ∃ o : Obj, W.heap[r]? = some o ∧ o.isCells = true) : Keeps B C m W W' :=
  ⟨hg.size, fun k o _ hk ho => (hg.block k (blk_lt hk) fun e => by obtain ⟨_, o', h1, h2⟩ := hr k e.symm; rw [hk] at h1; cases h1; rw [ho] at h2; cases h2).trans hk,
    fun k _ h2 h3 => hg.block k h3 fun e => by have := (hr k e.symm).1; omega⟩
/-- What stands from block B on abides. -/
def Abid (B : Nat) (E : Nat → World → Prop) : Prop := ∀ k X X', E k X → Below B X X' → E k X'

set_option maxRecDepth 100000 in
set_option maxHeartbeats 1000000 in
theorem new_nil (w : World) : Calls Try.prog 18 #[.nilFunc] w fun e w' => e = .returned (.pointer (some ⟨w.heap.size, 0, none⟩)) ∧ Srch w' w.heap.size (w.heap.size + 2) [] ∧ Below w.heap.size w w' := by
  have hn : ∀ w, (binOp .eql 31 .nilFunc .nilFunc).run Try.prog w = .ok (.bool true) w := fun w => by kernel_rfl
  have hg1 : ((w.alloc (.cells #[.slice none 0 0] 71)).alloc (.cells #[.pointer (some ⟨w.heap.size, 0, none⟩)] 38)).heap[w.heap.size]? = some (.cells #[.slice none 0 0] 71 (0, 0)) := (Below.heap_alloc _ _ _ (by simp)).trans (heap_alloc_new w _)
  have hB1 : Below w.heap.size w ((w.alloc (.cells #[.slice none 0 0] 71)).alloc (.cells #[.pointer (some ⟨w.heap.size, 0, none⟩)] 38)) := ((Below.refl _ w).alloc (Nat.le_refl _) _).alloc (by simp) _
  have hS := Lib.hid (show Srch _ w.heap.size (w.heap.size + 2) [] from ⟨none, 0, hg1, by simpa [its] using World.ownsRow_nil _ (w.heap.size + 2) 3 1⟩)
  clear hg1
  go_enter Try.func18, Try.ntmps18
  go_wp2
  go_step3
  go_wp2
  rw [Exit.noGoto_ret]
  go_ret
  exact ⟨rfl, hS.out, hB1⟩

set_option maxRecDepth 100000 in
set_option maxHeartbeats 4000000 in
theorem new_any (gf : Nat) (lb : Array Value) (l : List Int) (Nd : Nat → World → Prop) (T : Nat → Nat → World → World → Prop) (Kp : World → World → Prop) (m : Nat) (E E' : Nat → World → Prop) (w : World) (hl : l.length ≤ 1000000)
    (hseq : ∀ w', Below w.heap.size w w' → SeqAt Try.prog gf lb (fun k => #[.int .i64 (l.getD k 0)]) Nd T Kp m l.length true w')
    (eg : ∀ args w, (callFunc gf args).run Try.prog w = .ok (.enter gf args) w) (hKt : ∀ {A B C : World}, Kp A B → Kp B C → Kp A C) (hKp : ∀ X X', Below w.heap.size X X' → Kp X X')
    (hT : ∀ B k W1 W2, T B k W1 W2 → W1.heap.size ≤ W2.heap.size ∧ ∀ b o, b < B → W1.heap[b]? = some o → o.isCells = false → W2.heap[b]? = some o)
    (hTc : ∀ B k W1 W2, T B k W1 W2 → ∀ b o, w.heap.size ≤ b → W1.heap[b]? = some o → o.isCells = true → W2.heap[b]? = some o)
    (hE : Abid w.heap.size E) (hE' : Abid w.heap.size E') (hNd : ∀ k X, k ≤ l.length → E k X → Nd k X) (hET : ∀ B k W1 W2, w.heap.size ≤ B → k ≤ l.length → E k W1 → T B k W1 W2 → E' k W2) (hEE : ∀ k X, k < l.length → E' k X → E (k + 1) X) (h0 : E 0 w) :
    Calls Try.prog 18 #[.func (.func gf) #[] lb] w fun e w' => e = .returned (.pointer (some ⟨w.heap.size, 0, none⟩)) ∧ Srch w' w.heap.size (w.heap.size + 2 + 2 + m) (l.take 65536) ∧ ((∃ k, E k w') ∨ E' l.length w') := by
  refine (callsIn_wide (n := 6)).1 ?_
  refine callsIn_of_wp_marks Try.func18 rfl trivial ?_ rfl
  simp only [Try.ntmps18, List.size_toArray, List.length_cons, List.length_nil, Nat.reduceAdd, Nat.reduceSub, Array.replicate_succ, Array.replicate_zero, List.push_toArray, List.append_toArray, List.nil_append, List.cons_append]
  have hnil := fun w => eql_nil w (.func gf) #[] lb
  have HE := Lib.hid hE
  have HE' := Lib.hid hE'
  have HET := Lib.hid hET
  have HEE := Lib.hid hEE
  have HTc := Lib.hid hTc
  have HT := Lib.hid hT
  have Hseq := Lib.hid hseq
  clear hE hE' hET hEE hTc hT hseq
  gi_wp2
  refine wpIn_wide.2 ?_
  go_step3
  go_wp2
  go_step3
  go_wp2
  refine (wpIn_wide (n := 6)).1 ?_
  have hg1 : ((w.alloc (.cells #[.slice none 0 0] 71)).alloc (.cells #[.pointer (some ⟨w.heap.size, 0, none⟩)] 38)).heap[w.heap.size]? = some (.cells #[.slice none 0 0] 71 (0, 0)) := (Below.heap_alloc _ _ _ (by simp)).trans (heap_alloc_new w _)
  have hs1 : ((w.alloc (.cells #[.slice none 0 0] 71)).alloc (.cells #[.pointer (some ⟨w.heap.size, 0, none⟩)] 38)).heap[w.heap.size + 1]? = some (.cells #[.pointer (some ⟨w.heap.size, 0, none⟩)] 38 (0, 0)) := by
    have := heap_alloc_new (w.alloc (.cells #[.slice none 0 0] 71)) (.cells #[.pointer (some ⟨w.heap.size, 0, none⟩)] 38)
    simpa using this
  have hz1 : ((w.alloc (.cells #[.slice none 0 0] 71)).alloc (.cells #[.pointer (some ⟨w.heap.size, 0, none⟩)] 38)).heap.size = w.heap.size + 2 := by simp
  have hB1 : Below w.heap.size w ((w.alloc (.cells #[.slice none 0 0] 71)).alloc (.cells #[.pointer (some ⟨w.heap.size, 0, none⟩)] 38)) := ((Below.refl _ w).alloc (Nat.le_refl _) _).alloc (by simp) _
  obtain ⟨g, hg⟩ : ∃ g, w.heap.size = g := ⟨_, rfl⟩
  rw [hg] at hg1 hs1 hz1 hB1 HE HE' HET HTc Hseq hKp ⊢
  generalize (w.alloc (.cells #[.slice none 0 0] 71)).alloc (.cells #[.pointer (some ⟨g, 0, none⟩)] 38) = W1 at *
  have Hz1 := Lib.hid hz1
  have Hg := Lib.hid hg
  have HKp := Lib.hid hKp
  have hinv : ∀ D : Nat → World → Prop, Abid g D → OwnFrom W1.heap.size (fun (k : Nat) X => D k X ∧ X.heap[g + 1]? = some (.cells #[.pointer (some ⟨g, 0, none⟩)] 38 (0, 0)) ∧ Srch X g (g + 2 + 2 + m) (l.take k) ∧ k ≤ 65535) := by
    rintro D hD k X X' row ⟨a1, a2, a3, a4⟩ hgr hr
    have hr' := fun r e => (hr r e).2
    have hb : Below g X X' := ⟨hgr.os, hgr.tape, hgr.output, hgr.size, fun b hb => hgr.block b (by have := blk_lt a2; omega) fun e => by have := (hr b e.symm).1; rw [Hz1.out] at this; omega⟩
    exact ⟨hD k X X' a1 hb, (grownBy_keeps_cells hgr hr' a2 rfl).trans a2, a3.same (by omega) (fun b o _ ho hc => (grownBy_keeps_cells hgr hr' ho hc).trans ho), a4⟩
  have HInv := Lib.hid hinv
  have hE1 := HE.out 0 w W1 h0 hB1
  clear hinv hz1 hg hKp
  refine' wpIn_iter (by omega) (gf := gf) (lb := lb) rfl eg
    (Hseq.out W1 hB1) (fun h k => hKt h k) (fun X l o o' hl ho _ _ => ?hKb) HT.out (Below.refl _ _) (fun _ => rfl)
    (fun k X => E k X ∧ X.heap[g + 1]? = some (.cells #[.pointer (some ⟨g, 0, none⟩)] 38 (0, 0)) ∧ Srch X g (g + 2 + 2 + m) (l.take k) ∧ k ≤ 65535)
    (fun k X => E' k X ∧ X.heap[g + 1]? = some (.cells #[.pointer (some ⟨g, 0, none⟩)] 38 (0, 0)) ∧ Srch X g (g + 2 + 2 + m) (l.take k) ∧ k ≤ 65535)
    (fun c k X => c = .exit 0 ∧ E k X ∧ X.heap[g + 1]? = some (.cells #[.pointer (some ⟨g, 0, none⟩)] 38 (0, 0)) ∧ Srch X g (g + 2 + 2 + m) (l.take k) ∧ k = 65536)
    (HInv.out E HE.out) (HInv.out E' HE'.out) ?hIx (fun k X hk h => hNd k X hk h.1) ?hIT (fun h => by cases h) ?h0 _ ?assign ?body ?done ?stop
  case hKb => exact HKp.out _ _ ⟨rfl, rfl, rfl, by simp, fun b hb => World.putObj_heap_other (by have := Hz1.out; omega)⟩
  case hIx =>
    rintro c k X X' row ⟨a0, a1, a2, a3, a4⟩ hgr hr
    have hr' := fun r e => (hr r e).2
    have hb : Below g X X' := ⟨hgr.os, hgr.tape, hgr.output, hgr.size, fun b hb => hgr.block b (by have := blk_lt a2; omega) fun e => by have := (hr b e.symm).1; rw [Hz1.out] at this; omega⟩
    exact ⟨a0, HE.out k X X' a1 hb, (grownBy_keeps_cells hgr hr' a2 rfl).trans a2, a3.same (by omega) (fun b o _ ho hc => (grownBy_keeps_cells hgr hr' ho hc).trans ho), a4⟩
  case hIT =>
    rintro B k X X' hB hk ⟨a1, a2, a3, a4⟩ ht
    exact ⟨HET.out B k X X' (by have := Hz1.out; omega) hk a1 ht, HTc.out B k X X' ht _ _ (by omega) a2 rfl, a3.same (by omega) (HTc.out B k X X' ht), a4⟩
  case h0 => exact ⟨hE1, hs1, ⟨none, 0, by simpa using hg1, by simpa [its] using World.ownsRow_nil W1 (g + 2 + 2 + m) 3 1⟩, by omega⟩
  case assign =>
    intro l k X K hK
    gi_wp2
    exact hK
  case body =>
    rintro l' k X ⟨hE, hs, ⟨A, c, hg, hown⟩, hk⟩ hlt hm
    rw [Hz1.out] at hm
    have hlk : (l.take k).length = k := by rw [List.length_take]; omega
    rw [hlk] at hg hown
    have hsn := its_snoc hlt
    have hlk1 : (l.take (k + 1)).length = k + 1 := by rw [List.length_take]; omega
    rw [List.getD_eq_getElem?_getD] at hsn
    obtain ⟨x, hx⟩ : ∃ x, l[k]?.getD 0 = x := ⟨_, rfl⟩
    rw [hx] at hsn ⊢
    obtain ⟨i1, hj, hy0, hy1, hy2⟩ := info_parts info3
    have hcap : k ≤ c ∧ c ≤ maxLen := by
      rcases hown.2 with ⟨e1, e2⟩ | ⟨g', cap, cur, e1, h4, h5, h6, h7, h8⟩
      · injection e1 with e1 e2 e3
        exact ⟨by omega, by rw [e3]; unfold maxLen; omega⟩
      · injection e1 with e1 e2 e3
        subst e3
        exact ⟨h6, h7⟩
    unfold maxLen at hcap
    have hown' : ((X.alloc (.cells #[.int .i64 x] 3)).drew).ownsRow (g + 2 + 2 + m) 3 1 (.slice A k c) k (its (l.take k)) := hown.alloc _
    have hfr : RS ((X.alloc (.cells #[.int .i64 x] 3)).drew) (fun _ => True) 1 (some ⟨X.heap.size, 0, none⟩) 1 1 [.int .i64 x] := RS.drewN (RS.fresh (w := X) (P := fun _ => True) #[.int .i64 x] 3 1 1 rfl (by unfold maxLen; omega) trivial) 1
    obtain ⟨A2, c2, X2, hrun, hown2, hgr, hor⟩ := run_append_rs (P := Try.prog) ((X.alloc (.cells #[.int .i64 x] 3)).drew) (g + 2 + 2 + m) 22 22 3 i1 _ 1 8 Try.underlying22 hj hy0 hy1 hy2 rfl (by omega) (.slice A k c) k _ hown' (fun _ => True) _ 1 1 [.int .i64 x] hfr (by simp [Value.oneCell']) (by unfold maxLen; omega) (by omega) (by simp; omega)
    rw [hsn] at hown2
    have hlt2 := fun g' e => (hown'.lt g' e).1
    have zs := blk_lt hs
    have hgz : g + 1 < ((X.alloc (.cells #[.int .i64 x] 3)).drew).heap.size := by simp; omega
    have hg2 : X2.heap[g]? = some (.cells #[.slice A k c] 71 (0, 0)) := (hgr.block g (by omega) (fun e => by have := hlt2 g e.symm; omega)).trans ((Below.heap_alloc X _ g (by omega)).trans hg)
    have hs2 : X2.heap[g + 1]? = some (.cells #[.pointer (some ⟨g, 0, none⟩)] 38 (0, 0)) := (hgr.block (g + 1) hgz (fun e => by have := hlt2 _ e.symm; omega)).trans ((Below.heap_alloc X _ (g + 1) zs).trans hs)
    have c0 := blk_cell hs 0
    have c1 := blk_cell hg 0
    have c2' := blk_cell hg2 0
    have c3 := blk_free hg2 0
    have c4 := blk_cell hs2 0
    simp only [List.getElem?_toArray, List.getElem?_cons_zero] at c0 c1 c2' c4
    have c0a : ((X.alloc (.cells #[.int .i64 x] 3)).drew).cell? ⟨g + 1, 0, none⟩ = some (.pointer (some ⟨g, 0, none⟩)) := (World.cell?_alloc_lt X _ ⟨g + 1, 0, none⟩ zs).trans c0
    have c1a : ((X.alloc (.cells #[.int .i64 x] 3)).drew).cell? ⟨g, 0, none⟩ = some (.slice A k c) := (World.cell?_alloc_lt X _ ⟨g, 0, none⟩ (blk_lt hg)).trans c1
    have hcl : ∀ r, (Value.slice A k c).ownBlock = some r → g + 2 + 2 + m ≤ r ∧ ∃ o : Obj, ((X.alloc (.cells #[.int .i64 x] 3)).drew).heap[r]? = some o ∧ o.isCells = true := by
      intro r e
      refine ⟨hlt2 r e, ?_⟩
      rcases hown'.2 with ⟨e1, _⟩ | ⟨g2, cap, cur, e1, _, h5, _⟩
      · rw [e1] at e
        simp [Value.ownBlock] at e
      · rw [e1] at e
        simp [Value.ownBlock] at e
        subst e
        exact ⟨_, h5, rfl⟩
    have hKe : Keeps (g + 2) (g + 2 + 2) m X (X2.setCell ⟨g, 0, none⟩ (.slice A2 (k + 1) c2)) :=
      (((Keeps.alloc _ _ _ X _).trans (Keeps.drew _ _ _ _)).trans (keeps_grown hgr hcl)).trans (Keeps.setCell _ _ _ _ (.inl (by show g < _; omega)) _)
    have HKe := Lib.hid hKe
    clear hKe hcl
    have Hrun := Lib.hid hrun
    have hgr0 := Lib.hid hgr
    have Hlt2 := Lib.hid hlt2
    have Ho2 := Lib.hid (show (l.take (k + 1)).length = k + 1 from hlk1)
    have Hor := Lib.hid hor
    have HE' := Lib.hid hE
    have Hown2 := Lib.hid hown2
    clear hrun hE hown2 hown hown' hfr hgr hor hlt2 hsn hx hcap
    have hrun' : Sem.run Try.prog (Shut #[22, 22] 22 #[.slice A k c, .slice (some ⟨X.heap.size, 0, none⟩) 1 1]) ((X.alloc (.cells #[.int .i64 x] 3)).drew) = .ok (.slice A2 (k + 1) c2) X2 := Hrun.out
    gi_wp2
    gi_cut [] from 12 (fun wx => wx = X2.setCell ⟨g, 0, none⟩ (.slice A2 (k + 1) c2))
    case first =>
      first | (gi_region_with (fail)) | fail
      all_goals
        gi_wp2
        gi_meet
        case rel => rfl
    case rest =>
      subst hcut
      have hX2 : Below g X X2 := ((Below.refl g X).alloc (by omega) _).drew.grown hgr0.out (by simp; omega) (fun g' e => by have := Hlt2.out g' e.symm.symm; omega)
      have hgF : (X2.setCell ⟨g, 0, none⟩ (.slice A2 (k + 1) c2)).heap[g]? = some (.cells #[.slice A2 (k + 1) c2] 71 (0, 0)) := by simpa using blk_set hg2 0 (.slice A2 (k + 1) c2)
      have hsF := (Below.heap_setCell X2 ⟨g, 0, none⟩ (.slice A2 (k + 1) c2) (g + 1) (by show _ ≠ g; omega)).trans hs2
      have hB2 : Below g X (X2.setCell ⟨g, 0, none⟩ (.slice A2 (k + 1) c2)) := hX2.setCell (p := ⟨g, 0, none⟩) (Nat.le_refl _) _
      have hSF : Srch (X2.setCell ⟨g, 0, none⟩ (.slice A2 (k + 1) c2)) g (g + 2 + 2 + m) (l.take (k + 1)) := by
        refine ⟨A2, c2, by rw [Ho2.out]; exact hgF, ?_⟩
        rw [Ho2.out]
        rcases Hown2.out with ⟨h1, h3⟩
        refine ⟨h1, ?_⟩
        rcases h3 with h3 | ⟨g', cap, cur, e1, h4, h5, h6⟩
        · exact .inl h3
        · exact .inr ⟨g', cap, cur, e1, h4, (Below.heap_setCell X2 ⟨g, 0, none⟩ _ g' (by show _ ≠ g; omega)).trans h5, h6⟩
      have hEF := HE.out (k + 1) _ _ (HEE.out k X hlt HE'.out) hB2
      have HSF := Lib.hid hSF
      have HEF := Lib.hid hEF
      have hKp2 := Lib.hid (HKp.out _ _ hB2)
      have c5 := blk_cell hgF 0
      have c6 := blk_cell hsF 0
      simp only [List.getElem?_toArray, List.getElem?_cons_zero] at c5 c6
      have HsF := Lib.hid hsF
      generalize X2.setCell ⟨g, 0, none⟩ (.slice A2 (k + 1) c2) = XF at *
      clear hB2 hSF hEF hsF hgF hX2 hg2 hs2 c0 c1 c2' c3 c4 c0a c1a hrun' hs hg
      by_cases hk6 : (k : Int) + 1 = 65536
      · have t1 : ((k : Int) + 1 == 65536) = true := by simp [hk6]
        have hk7 : k + 1 = 65536 := by omega
        have Hk7 := Lib.hid hk7
        clear hk6 hk7
        gi_wp2
        exact ⟨by rw [Hz1.out]; exact HKe.out, rfl, HEF.out, HsF.out, HSF.out, Hk7.out⟩
      · have t1 : ((k : Int) + 1 == 65536) = false := by simp; omega
        have hk7 : k + 1 ≤ 65535 := by omega
        have Hk7 := Lib.hid hk7
        clear hk6 hk7
        gi_wp2
        exact ⟨by rw [Hz1.out]; exact HKe.out, hKp2.out, HEF.out, HsF.out, HSF.out, Hk7.out⟩
  case done =>
    rintro D X hD ⟨hE, hs, hS, hk⟩ hK
    have c0 := blk_cell hs 0
    simp only [List.getElem?_toArray, List.getElem?_cons_zero] at c0
    have zD : g + 2 ≤ D := by have := Hz1.out; omega
    have hp : Below g X (X.putObj D (.deferred none)) := ⟨rfl, rfl, rfl, by simp, fun b hb => World.putObj_heap_other (by omega)⟩
    have hS' : Srch (X.putObj D (.deferred none)) g (g + 2 + 2 + m) (l.take 65536) := by
      rw [List.take_of_length_le (by omega)] at hS ⊢
      exact hS.same (by omega) (fun b o _ ho hc => (World.putObj_heap_other (fun e => by subst e; rw [hK] at ho; cases ho; cases hc)).trans ho)
    have HS' := Lib.hid hS'
    have hE2 := Lib.hid (HE'.out _ _ _ hE hp)
    clear hS hS' hE hs hp
    gi_wp2
    go_wp2
    rw [Exit.noGoto_ret]
    exact ⟨by simp, .inl ⟨_, _, rfl, run_takeDeferred hK, _, results_tmp rfl _ _ _, by rw [Hg.out]; rfl, by rw [Hg.out]; exact HS'.out, .inr hE2.out⟩⟩
  case stop =>
    rintro D c k X hD _ _ ⟨rfl, hE, hs, hS, rfl⟩ hK
    have c0 := blk_cell hs 0
    simp only [List.getElem?_toArray, List.getElem?_cons_zero] at c0
    have zD : g + 2 ≤ D := by have := Hz1.out; omega
    have hp : Below g X (X.putObj D (.deferred none)) := ⟨rfl, rfl, rfl, by simp, fun b hb => World.putObj_heap_other (by omega)⟩
    have hS' : Srch (X.putObj D (.deferred none)) g (g + 2 + 2 + m) (l.take 65536) :=
      hS.same (by omega) (fun b o _ ho hc => (World.putObj_heap_other (fun e => by subst e; rw [hK] at ho; cases ho; cases hc)).trans ho)
    have HS' := Lib.hid hS'
    have hE2 := Lib.hid (HE.out _ _ _ hE hp)
    clear hS hS' hE hs hp
    gi_wp2
    go_wp2
    rw [Exit.noGoto_ret]
    exact ⟨by simp, .inl ⟨_, _, rfl, run_takeDeferred hK, _, results_tmp rfl _ _ _, by rw [Hg.out]; rfl, by rw [Hg.out]; exact HS'.out, .inl ⟨_, hE2.out⟩⟩⟩
end Go.Proofs.Ytpikikaoelnheaa
