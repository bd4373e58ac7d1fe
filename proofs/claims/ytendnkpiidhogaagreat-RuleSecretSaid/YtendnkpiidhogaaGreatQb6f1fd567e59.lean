/- What is amiss with a template. An attribute's default; whether an object is to be the token's, and private. joined: a template and what the mechanism gives. Nothing is read as DER: der.Read and keyfmt.read. Plain arithmetic of digits, the lowest first, to a base: nothing of the program. Plain arithmetic of the rounds of sums, differences and products: nothing of the program. The library contracts of math/bits at this program, as the shelf lays them. Words for memory that holds limbs: a slice that reads as limbs; a block that is known whole; a slice of one's own. What limb.trim, made, Of, Norm and the reference's trim compute. What limb.Cmp and the reference's compute: the order of two numbers. What limb.Sub computes. What limb.Mul computes. What the reference's From, Of, To and Is compute. What the reference's Is, and the laws' Cut and few, compute. -/
import Derived.Test.YtendnkpiidhogaaGreatQ9082f55ad9fc
import Derived.Lib.Hide
import Derived.Shelf.Small.Bits
import Derived.Shelf.Strconv.Itoa0
import Derived.Shelf.Bits.Mul64
import Derived.Test.YtendnkpiidhogaaGreatProg
import Derived.Shelf.Spec.BitsCarry
import Derived.Test.YtendnkpiidhogaaGreatRows
import Derived.Deep.OwnRows
import Derived.Deep.DeepCutAuto
import Derived.Deep.QuietTactic
import Derived.BigQuiet
namespace Go.Proofs.YtendnkpiidhogaaGreat.At
open Go.RowKit Go.Shelf

attribute [local go_sem] Oper.semAt_some

def rowsC (how c k : Int) (l : Attrs) (z : Int) : Prop := (z = 0 ∧ cleanCs how c k l 0) ∨ (z = 1 ∧ cleanCs how c k l 1) ∨ (z = 2 ∧ cleanCs how c k l 2)

set_option maxRecDepth 100000 in
set_option maxHeartbeats 4000000 in
theorem check_any (P : Nat → Prop) (A : Option Addr) (c : Nat) (l : Attrs) (how class_ key : Int) (w : World) (hv : RA w P A c l) (hP : ∀ b, P b → b < w.heap.size) :
 Calls Tryz.prog 35 #[.int .i64 how, .slice A l.length c, .int .i64 class_, .int .i64 key] w fun e w' => e = .returned (.int .i64 (checkOf how l class_ key)) ∧ Below w.heap.size w w' := by
 obtain ⟨hlc, hc⟩ := hv.cap
 by_cases hh : how < 1 ∨ 4 < how
 · have Hr := Lib.hid (show checkOf how l class_ key = 7 by simp only [checkOf, if_pos hh])
   by_cases h1 : how < 1
   · clear hh
     go_enter Tryz.func35, Tryz.ntmps35
     go_wp2
     go_step3
     go_wp2
     rw [Exit.noGoto_ret]
     go_ret
     exact ⟨by rw [Hr.out]; rfl, Below.refl _ _⟩
   · have h4 : 4 < how := by omega
     clear hh
     go_enter Tryz.func35, Tryz.ntmps35
     go_wp2
     go_step3
     go_wp2
     rw [Exit.noGoto_ret]
     go_ret
     exact ⟨by rw [Hr.out]; rfl, Below.refl _ _⟩
 · have h1 : ¬ how < 1 := by omega
   have h4 : ¬ 4 < how := by omega
   have F := forms_any P A c l w hv hP
   have K := kinds_any P A c l class_ key
   obtain ⟨fo, hfo⟩ : ∃ f, formsOf l = f := ⟨_, rfl⟩
   obtain ⟨p, hp⟩ : ∃ p, kindsOf l class_ key = p := ⟨_, rfl⟩
   obtain ⟨kc, kk, kr⟩ := p
   have Hf := Lib.hid (fun h : fo ≠ 0 => show checkOf how l class_ key = fo by simp only [checkOf, if_neg hh, hfo, if_pos h])
   have Hk := Lib.hid (fun (h0 : fo = 0) (h : kr ≠ 0) => show checkOf how l class_ key = kr by simp only [checkOf, if_neg hh, hfo, h0, ne_eq, not_true_eq_false, if_false, hp, if_pos h])
   have Hl := Lib.hid (fun (h0 : fo = 0) (h : kr = 0) => show checkOf how l class_ key = lastOf how kc kk l by rw [check_last hh (hfo.trans h0) (by rw [hp]; exact h), hp])
   rw [hfo] at F
   rw [hp] at K
   have HF := Lib.hid F
   have HK := Lib.hid K
   clear hfo hp F K hh
   go_enter Tryz.func35, Tryz.ntmps35
   go_wp2
   go_step3
   go_wp2_with fail
   refine HF.out.mono ?_
   rintro e w1 ⟨rfl, hB1⟩
   have hs1 := hB1.size
   by_cases h0 : fo = 0
   case neg =>
    have h0' : (fo == 0) = false := by simpa using h0
    have Hr := Lib.hid (Hf.out h0)
    clear h0
    go_wp2
    rw [Exit.noGoto_ret]
    go_ret
    exact ⟨by rw [Hr.out]; rfl, hB1⟩
   have Hk2 := Lib.hid (Hk.out h0)
   have Hl2 := Lib.hid (Hl.out h0)
   subst h0
   clear Hf HF Hk Hl
   go_wp2_with fail
   refine (HK.out w1 (hv.below hB1 hP) (fun b hb => by have := hP b hb; omega)).mono ?_
   rintro e w2 ⟨rfl, hB2⟩
   have hB := hB1.trans (hB2.mono hs1)
   by_cases hk : kr = 0
   case neg =>
    have hk' : (kr == 0) = false := by simpa using hk
    have Hr := Lib.hid (Hk2.out hk)
    clear hk
    go_wp2
    rw [Exit.noGoto_ret]
    go_ret
    exact ⟨by rw [Hr.out]; rfl, hB⟩
   have Hl := Lib.hid (Hl2.out hk)
   subst hk
   clear Hk2 Hl2 HK hB1 hB2
   go_wp2
   go_step3
   go_wp2
   go_loopw [10, 36] (fun rv i wr => ∃ z : Int, i = .int .i64 z ∧ rv = .int .i64 0 ∧ rowsC how kc kk l z ∧ Below w.heap.size w wr) (fun _ i _ => 2 - (intOf i).toNat)
   case atStart => exact ⟨0, rfl, rfl, .inl ⟨rfl, fun j hj => absurd hj (by omega)⟩, hB⟩
   case round =>
    clear hB
    obtain ⟨z, rfl, rfl, hz, hB⟩ := hrel
    obtain ⟨wo, rfl⟩ : ∃ wo, wo = wr := ⟨_, rfl⟩
    rcases hz with ⟨rfl, hno⟩ | ⟨rfl, hno⟩ | ⟨rfl, hno⟩
    all_goals (have Hno := Lib.hid hno; clear hno)
    rotate_right
    · have Hf := Lib.hid (last_clean Hno.out)
      go_wp2
      rw [Exit.noGoto_ret]
      go_ret
      exact ⟨by rw [Hl.out, Hf.out]; rfl, hB⟩
    · go_wp2
      go_loopw [10, 41] (fun rv i wr => ∃ k : Nat, k ≤ l.length ∧ i = .int .i64 k ∧ rv = .int .i64 0 ∧ cleanC how kc kk 0 l k ∧ Below w.heap.size w wr) (fun _ i _ => l.length - (intOf i).toNat)
      case atStart => exact ⟨0, Nat.zero_le _, rfl, rfl, cleanC_zero _ _ _ _ _, hB⟩
      case round =>
       clear hB
       obtain ⟨k, hk, rfl, rfl, hcl, hB⟩ := hrel
       by_cases hlt : k < l.length
       · have hvr := hv.below hB hP
         obtain ⟨ad, Au, cu, rfl, hb, hc1, hc2, hu⟩ := hvr.at_ hlt
         have hs := hB.size
         obtain ⟨x, hx⟩ : ∃ x, l[k] = x := ⟨_, rfl⟩
         rw [hx] at hc1 hc2 hu
         have hbw := hB.alloc hs (.cells #[.int .i64 x.1, .slice Au x.2.length cu] 37)
         have hsw := hbw.size
         obtain ⟨b, hb'⟩ : ∃ b, hasOf kc kk x.1 = b := ⟨_, rfl⟩
         have hca := has_any kc kk x.1 (wr.alloc (.cells #[.int .i64 x.1, .slice Au x.2.length cu] 37))
         rw [hb'] at hca
         have HC := Lib.hid hca
         have Hval := Lib.hid (show badC how kc kk 0 l[k].1 = !b by rw [hx, ← hb']; simp [badC])
         clear hx hb' hca
         go_wp2_with fail
         refine HC.out.mono ?_
         rintro e w3 ⟨rfl, hB3⟩
         have hBX : Hid (Below w.heap.size w _) := Lib.hid (hbw.trans (hB3.mono hsw))
         cases b
         · have Hit := Lib.hid (last_hit0 hlt (by simpa using Hval.out))
           clear hcl
           go_wp2
           rw [Exit.noGoto_ret]
           go_ret
           exact ⟨by rw [Hl.out, Hit.out]; rfl, hBX.out⟩
         · have Hn := Lib.hid (cleanC_succ hcl hlt (by simpa using Hval.out))
           clear hcl
           go_wp2
           go_roundw
           case rel => exact ⟨k + 1, by omega, by go_num, rfl, Hn.out, hBX.out⟩
           case measure => simp [intOf]; omega
       · obtain rfl : k = l.length := by omega
         have Hn := Lib.hid (cleanCs_succ Hno.out hcl)
         clear hcl
         go_wp2
         go_roundw
         case rel => exact ⟨1, by go_num, rfl, .inr (.inl ⟨rfl, Hn.out⟩), hB⟩
         case measure => first | (simp [intOf]; done) | (simp [intOf]; decide)
    · go_wp2
      go_loopw [10, 41] (fun rv i wr => ∃ k : Nat, k ≤ l.length ∧ i = .int .i64 k ∧ rv = .int .i64 0 ∧ cleanC how kc kk 1 l k ∧ Below w.heap.size w wr) (fun _ i _ => l.length - (intOf i).toNat)
      case atStart => exact ⟨0, Nat.zero_le _, rfl, rfl, cleanC_zero _ _ _ _ _, hB⟩
      case round =>
       clear hB
       obtain ⟨k, hk, rfl, rfl, hcl, hB⟩ := hrel
       by_cases hlt : k < l.length
       · have hvr := hv.below hB hP
         obtain ⟨ad, Au, cu, rfl, hb, hc1, hc2, hu⟩ := hvr.at_ hlt
         have hs := hB.size
         obtain ⟨x, hx⟩ : ∃ x, l[k] = x := ⟨_, rfl⟩
         rw [hx] at hc1 hc2 hu
         have hbw := hB.alloc hs (.cells #[.int .i64 x.1, .slice Au x.2.length cu] 37)
         have hsw := hbw.size
         obtain ⟨b, hb'⟩ : ∃ b, unreadOf how kc x.1 = b := ⟨_, rfl⟩
         have hca := unread_any how kc x.1 (wr.alloc (.cells #[.int .i64 x.1, .slice Au x.2.length cu] 37))
         rw [hb'] at hca
         have HC := Lib.hid hca
         have Hval := Lib.hid (show badC how kc kk 1 l[k].1 = b by rw [hx, ← hb']; simp [badC])
         clear hx hb' hca
         go_wp2_with fail
         refine HC.out.mono ?_
         rintro e w3 ⟨rfl, rfl⟩
         have hBX : Hid (Below w.heap.size w _) := Lib.hid hbw
         cases b
         · have Hn := Lib.hid (cleanC_succ hcl hlt (by simpa using Hval.out))
           clear hcl
           go_wp2
           go_roundw
           case rel => exact ⟨k + 1, by omega, by go_num, rfl, Hn.out, hBX.out⟩
           case measure => simp [intOf]; omega
         · have Hit := Lib.hid (last_hit1 Hno.out hlt (by simpa using Hval.out))
           clear hcl
           go_wp2
           rw [Exit.noGoto_ret]
           go_ret
           exact ⟨by rw [Hl.out, Hit.out]; rfl, hBX.out⟩
       · obtain rfl : k = l.length := by omega
         have Hn := Lib.hid (cleanCs_succ Hno.out hcl)
         clear hcl
         go_wp2
         go_roundw
         case rel => exact ⟨2, by go_num, rfl, .inr (.inr ⟨rfl, Hn.out⟩), hB⟩
         case measure => first | (simp [intOf]; done) | (simp [intOf]; decide)
end Go.Proofs.YtendnkpiidhogaaGreat.At

namespace Go.Proofs.YtendnkpiidhogaaGreat.At
open Go.RowKit Go.Shelf

theorem std_step {w : World} {P : Nat → Prop} {A : Option Addr} {c : Nat} {class_ t : Int} {v : Bool} (hr : RB w P A c [v.toNat]) (h : (standardOf class_ t).2 = [v.toNat]) : (standardOf class_ t).2.length = 1 ∧ RB w P A c (standardOf class_ t).2 := by rw [h]; exact ⟨rfl, hr⟩

set_option maxRecDepth 100000 in
set_option maxHeartbeats 4000000 in
theorem standard_any (class_ t : Int) (w : World) :
 Calls Tryz.prog 52 #[.int .i64 class_, .int .i64 t] w fun e w' => ∃ A c, e = .returned (.agg #[.int .i64 t, .slice A (standardOf class_ t).2.length c]) ∧ RB w' (In w.heap.size w'.heap.size) A c (standardOf class_ t).2 ∧ Below w.heap.size w w' := by
 obtain ⟨f, hf⟩ : ∃ f, formOf t = f := ⟨_, rfl⟩
 have hF := fun w => form_any t w
 simp only [hf] at hF
 have HF := Lib.hid hF
 clear hF
 have hb0 := heap_alloc_new w (.cells #[.int .i64 0, .slice none 0 0] 37)
 have hBW : Below w.heap.size w (w.alloc (.cells #[.int .i64 0, .slice none 0 0] 37)) := (Below.refl _ w).alloc (Nat.le_refl _) _
 have hsz : (w.alloc (.cells #[.int .i64 0, .slice none 0 0] 37)).heap.size = w.heap.size + 1 := by simp
 by_cases h1 : f = 1
 · subst h1
   have hs : ∀ v : Bool, (if t = 2 then class_ == 4 || class_ == 3 else if t = 368 ∨ t = 369 then true else if t = 259 then class_ == 3 else if t = 354 then class_ == 4 else false) = v → (standardOf class_ t).2 = [v.toNat] := fun v hv => by simp only [standardOf, hf, if_true, hv]
   have HS := Lib.hid hs
   clear hs hf
   obtain ⟨s, hs⟩ : ∃ s, w.heap.size = s := ⟨_, rfl⟩
   go_enter Tryz.func52, Tryz.ntmps52
   go_wp2_with fail
   rw [hs] at hb0 hBW hsz
   generalize w.alloc (.cells #[.int .i64 0, .slice none 0 0] 37) = W at *
   refine (HF.out _).mono ?_
   rintro e w1 ⟨rfl, rfl⟩
   have y0 := blk_cell hb0 0
   have y1 := blk_cell hb0 1
   have f0 := blk_free hb0 0
   have f1 := blk_free hb0 1
   simp at y0 y1
   have Hsz := Lib.hid hsz
   clear hsz hb0
   go_wp2_with fail
   all_goals
    refine (bool_any t _ W).mono ?_
    rintro e w1 ⟨A, c, rfl, hr, hB⟩
    obtain ⟨hl, hr⟩ := std_step hr (HS.out _ (by first | (simp_all; done) | (simp_all; omega)))
    have hs1 := hB.size
    have z0 := (hB.cell (p := ⟨s, 0, none⟩) (by have := Hsz.out; show s < _; omega)).trans y0
    have z1 := (hB.cell (p := ⟨s, 1, none⟩) (by have := Hsz.out; show s < _; omega)).trans y1
    have g0 := (hB.frozen (p := ⟨s, 0, none⟩) (by have := Hsz.out; show s < _; omega)).trans f0
    have g1 := (hB.frozen (p := ⟨s, 1, none⟩) (by have := Hsz.out; show s < _; omega)).trans f1
    clear y0 y1 f0 f1
    go_wp2
    rw [hl]
    refine bodyPost_ret (v := .agg #[.int .i64 t, .slice A 1 c]) (by simp [results, Tryz.results52, go_sem, z0, z1]) rfl ⟨A, c, rfl, ?_, ?_⟩
    · refine ((hr.setCell (p := ⟨s, 0, none⟩) (fun h => by have := h.1; have := Hsz.out; simp at *; omega) _).setCell (p := ⟨s, 1, none⟩) (fun h => by have := h.1; have := Hsz.out; simp at *; omega) _).mono fun b hb => ⟨by have := hb.1; have := Hsz.out; omega, by have := hb.2; simpa [World.setCell] using this⟩
    · have := Hsz.out
      rw [hs]; exact ((hBW.trans (hB.mono (by omega))).setCell (p := ⟨s, 0, none⟩) (by simp) _).setCell (p := ⟨s, 1, none⟩) (by simp) _
 · have h1' : (f == 1) = false := by simpa using h1
   have hs := Lib.hid (show (standardOf class_ t).2 = [] by simp [standardOf, hf, h1])
   clear hf h1
   go_enter Tryz.func52, Tryz.ntmps52
   go_wp2_with fail
   refine (HF.out _).mono ?_
   rintro e w1 ⟨rfl, rfl⟩
   go_wp2
   rw [hs.out]
   refine bodyPost_ret (v := .agg #[.int .i64 t, .slice none 0 0]) (by simp [results, Tryz.results52, go_sem]) rfl ⟨none, 0, rfl, RB.nil_ _ _, ?_⟩
   exact (Below.refl _ w).alloc (Nat.le_refl _) _
theorem standardOf_fst (class_ t : Int) : (standardOf class_ t).1 = t := by unfold standardOf; split <;> rfl

set_option maxRecDepth 100000 in
set_option maxHeartbeats 4000000 in
theorem rflag_any (P : Nat → Prop) (A : Option Addr) (c : Nat) (l : Attrs) (class_ t : Int) (w : World) (hv : RA w P A c l) (hP : ∀ b, P b → b < w.heap.size) :
 Calls Tryz.prog 73 #[.slice A l.length c, .int .i64 class_, .int .i64 t] w fun e w' => e = .returned (.bool (flagD l class_ t)) ∧ Below w.heap.size w w' := by
 obtain ⟨b, hb⟩ : ∃ b, came l t = b := ⟨_, rfl⟩
 have hc := came_any P A c l t w hv hP
 rw [hb] at hc
 have HC := Lib.hid hc
 have hd1 := Lib.hid (show b = true → flagD l class_ t = flagOf l t from fun h => by simp [flagD, hb, h])
 have hd2 := Lib.hid (show b = false → flagD l class_ t = flagOf [standardOf class_ t] t from fun h => by simp [flagD, hb, h])
 clear hb hc
 go_enter Tryz.func73, Tryz.ntmps73
 go_wp2_with fail
 refine HC.out.mono ?_
 rintro e w1 ⟨rfl, hB1⟩
 have hv1 := hv.below hB1 hP
 have hs1 := hB1.size
 cases b
 · go_wp2_with fail
   refine (standard_any class_ t _).mono ?_
   rintro e w2 ⟨A2, c2, rfl, hr2, hB2⟩
   obtain ⟨x, hx⟩ : ∃ x, standardOf class_ t = x := ⟨_, rfl⟩
   have hx1 : t = x.1 := by rw [← hx]; exact (standardOf_fst class_ t).symm
   rw [hx] at hr2 hd2 ⊢
   have hs2 := hB2.size
   have hr2' : RB w2 (fun b => b < w2.heap.size) A2 c2 x.2 := hr2.mono fun b hb => hb.2
   have hL : RA (w2.alloc (.cells #[.int .i64 t, .slice A2 x.2.length c2] 37)) (fun b => b < (w2.alloc (.cells #[.int .i64 t, .slice A2 x.2.length c2] 37)).heap.size) (some ⟨w2.heap.size, 0, none⟩) 1 [x] :=
    RA.lit _ _ _ 1 _ (by rw [hx1]; exact CA.single hr2') rfl rfl (by omega) rfl (fun b hb => hb) (by simp) (fun b hb => by simp; omega)
   have hf := flag_any _ _ 1 [x] t _ hL (fun b hb => hb)
   have HFl := Lib.hid hf
   clear hf hL hr2 hr2' hx hx1
   go_wp2_with fail
   refine HFl.out.mono ?_
   rintro e w3 ⟨rfl, hB3⟩
   go_wp2
   go_ret
   exact ⟨ret_bool (hd2.out (by trivial)).symm, (hB1.trans (hB2.mono hs1)).trans ((((Below.refl _ w2).alloc (by omega) _).trans (hB3.mono (by simp; omega))))⟩
 · go_wp2_with fail
   refine (flag_any P A c l t w1 hv1 (fun b hb => by have := hP b hb; omega)).mono ?_
   rintro e w2 ⟨rfl, hB2⟩
   go_wp2
   go_ret
   exact ⟨ret_bool (hd1.out (by trivial)).symm, hB1.trans (hB2.mono hs1)⟩
set_option maxHeartbeats 1000000 in
theorem wants_any (P : Nat → Prop) (A : Option Addr) (c : Nat) (l : Attrs) (class_ : Int) (w : World) (hv : RA w P A c l) (hP : ∀ b, P b → b < w.heap.size) :
 Calls Tryz.prog 33 #[.slice A l.length c, .int .i64 class_] w fun e w' => e = .returned (.tuple #[.bool (flagD l class_ 1), .bool (flagD l class_ 2)]) ∧ Below w.heap.size w w' := by
 go_enter Tryz.func33, Tryz.ntmps33
 go_wp2_with fail
 refine (rflag_any P A c l class_ 1 w hv hP).mono ?_
 rintro e w1 ⟨rfl, hB1⟩
 have hs1 := hB1.size
 go_wp2_with fail
 refine (rflag_any P A c l class_ 2 w1 (hv.below hB1 hP) (fun b hb => by have := hP b hb; omega)).mono ?_
 rintro e w2 ⟨rfl, hB2⟩
 go_wp2
 go_ret2
 exact ⟨rfl, hB1.trans (hB2.mono hs1)⟩
end Go.Proofs.YtendnkpiidhogaaGreat.At

namespace Go.Proofs.YtendnkpiidhogaaGreat.At
open Go.RowKit Go.Shelf

def JoinP (R : Option Attrs) (base : Nat) (e : Ending) (w' : World) : Prop :=
 match R with
 | some x => ∃ A c, e = .returned (.tuple #[.slice A x.length c, .bool true]) ∧ RA w' (In base w'.heap.size) A c x
 | none => e = .returned (.tuple #[.slice none 0 0, .bool false])
theorem joinP_no {R : Option Attrs} {base : Nat} {w' : World} (h : R = none) : JoinP R base (.returned (.tuple #[.slice none 0 0, .bool false])) w' := by rw [h]; rfl
theorem joinP_yes {R : Option Attrs} {x : Attrs} {A : Option Addr} {c : Nat} {base : Nat} {w' : World} (h : R = some x) (hx : RA w' (In base w'.heap.size) A c x) : JoinP R base (.returned (.tuple #[.slice A x.length c, .bool true])) w' := by
 rw [h]; exact ⟨A, c, rfl, hx⟩
theorem join_step {l out : Attrs} {k : Nat} {x : Int × List Nat} (hk : k < l.length) (hx : l[k] = x) :
 joinOn out (l.drop k) = match seek out x.1 with | none => joinOn (putOf out x) (l.drop (k + 1)) | some b => if b = x.2 then joinOn (putOf out x) (l.drop (k + 1)) else none := by
 rw [List.drop_eq_getElem_cons hk, hx, joinOn, came]
 cases seek out x.1 with
 | none => simp
 | some b => by_cases h : b = x.2 <;> simp [h]

set_option maxRecDepth 100000 in
set_option maxHeartbeats 4000000 in
theorem joined_any (P P' : Nat → Prop) (A A' : Option Addr) (c c' : Nat) (l t : Attrs) (w : World) (hv : RA w P A c l) (hP : ∀ b, P b → b < w.heap.size) (hv' : RA w P' A' c' t) (hP' : ∀ b, P' b → b < w.heap.size) (hl : l.length ≤ 1000) (htl : t.length ≤ 1000) :
    Calls Tryz.prog 49 #[.slice A l.length c, .slice A' t.length c'] w fun e w' => JoinP (joinedOf l t) w.heap.size e w' ∧ Below w.heap.size w w' := by
  obtain ⟨R, hR0⟩ : ∃ R, joinedOf l t = R := ⟨_, rfl⟩
  rw [hR0]
  have HR0 := Lib.hid (show ((joinOn [] (l.drop 0)).bind fun o => joinOn o t) = R from hR0)
  clear hR0
  obtain ⟨hlc, hc⟩ := hv.cap
  obtain ⟨hlc', hc'⟩ := hv'.cap
  have hb0 := heap_alloc_new w (.cells #[.slice A l.length c, .slice A' t.length c'] 42)
  have hb0 := heap_alloc_new w (.cells #[.slice A l.length c, .slice A' t.length c'] 24)
  have hB0 : Below w.heap.size w (w.alloc (.cells #[.slice A l.length c, .slice A' t.length c'] 24)) := (Below.refl _ w).alloc (Nat.le_refl _) _
  have HB0 := Lib.hid hB0
  have Hb0 := Lib.hid hb0
  clear hB0 hb0
  go_enter Tryz.func49, Tryz.ntmps49
  go_wp2
  go_loopw [6, 17] (fun v i wr => ∃ (z : Int) (out : Attrs) (A1 : Option Addr) (c1 : Nat), i = .int .i64 z ∧ v = .slice A1 out.length c1 ∧ RA wr (In w.heap.size wr.heap.size) A1 c1 out ∧ wr.heap[w.heap.size]? = some (.cells #[.slice A l.length c, .slice A' t.length c'] 24 (0, 0)) ∧ Below w.heap.size w wr ∧
      ((z = 0 ∧ out = []) ∨ (z = 1 ∧ out.length ≤ 2000 ∧ joinOn out (t.drop 0) = R) ∨ (z = 2 ∧ some out = R))) (fun _ i _ => 2 - (intOf i).toNat)
  case atStart => exact ⟨0, [], none, 0, rfl, rfl, RA.nil_ _ _, by simpa using Hb0.out, by simpa using HB0.out, .inl ⟨rfl, rfl⟩⟩
  case round =>
    clear HB0 Hb0
    obtain ⟨z, out0, A0, c0, rfl, rfl, hRA0, hbx, hB, hz⟩ := hrel
    obtain ⟨wo, rfl⟩ : ∃ wo, wo = wr := ⟨_, rfl⟩
    have x0 := blk_cell hbx 0
    have x1 := blk_cell hbx 1
    simp at x0 x1
    have HB := Lib.hid hB
    have HRA0 := Lib.hid hRA0
    have Hbx := Lib.hid hbx
    clear hB hRA0 hbx
    rcases hz with ⟨rfl, rfl⟩ | ⟨rfl, hlo, hj⟩ | ⟨rfl, hR⟩
    rotate_right
    · have HR := Lib.hid hR
      clear hR
      go_wp2
      go_ret2
      exact ⟨joinP_yes HR.out.symm HRA0.out, HB.out⟩
    · skip
      clear x1
      go_wp2
      go_loopw [6, 23] (fun v i wr => ∃ (k : Nat) (out : Attrs) (A1 : Option Addr) (c1 : Nat), k ≤ l.length ∧ i = .int .i64 k ∧ v = .slice A1 out.length c1 ∧ RA wr (In w.heap.size wr.heap.size) A1 c1 out ∧ out.length ≤ 0 + k ∧ ((joinOn out (l.drop k)).bind fun o => joinOn o t) = R ∧ wr.heap[w.heap.size]? = some (.cells #[.slice A l.length c, .slice A' t.length c'] 24 (0, 0)) ∧ Below w.heap.size w wr) (fun _ i _ => l.length - (intOf i).toNat)
      case atStart => exact ⟨0, [], A0, c0, Nat.zero_le _, rfl, rfl, HRA0.out, by simp, HR0.out, Hbx.out, HB.out⟩
      case round =>
        clear HB HRA0 Hbx x0
        obtain ⟨k, out, A1, c1, hk, rfl, rfl, hRA, hlen, hJ, hbx, hB⟩ := hrel
        have hs := hB.size
        have hzr := blk_lt hbx
        by_cases hlt : k < l.length
        · have hvr := hv.below hB hP
          obtain ⟨ad, Au, cu, rfl, hb, hc1, hc2, hu⟩ := hvr.at_ hlt
          have hP1 : ∀ b, P b → b < wr.heap.size := fun b hb => Nat.lt_of_lt_of_le (hP b hb) hs
          obtain ⟨x, hx⟩ : ∃ x, l[k] = x := ⟨_, rfl⟩
          rw [hx] at hc1 hc2 hu
          rw [join_step hlt hx] at hJ
          have hol : out.length ≤ 100000 := by omega
          have Hlen := Lib.hid (show (putOf out x).length ≤ 0 + (k + 1) from Nat.le_trans (length_putOf out x) (by omega))
          have hz1 : wr.heap.size < (wr.alloc (.cells #[.int .i64 x.1, .slice Au x.2.length cu] 37)).heap.size := by simp
          have hW1 : Below wr.heap.size wr (wr.alloc (.cells #[.int .i64 x.1, .slice Au x.2.length cu] 37)) := (Below.refl _ _).alloc (Nat.le_refl _) _
          have m0 : (wr.alloc (.cells #[.int .i64 x.1, .slice Au x.2.length cu] 37)).cell? ⟨wr.heap.size, 0, none⟩ = some (.int .i64 x.1) := by simp [go_sem]
          have m1 : (wr.alloc (.cells #[.int .i64 x.1, .slice Au x.2.length cu] 37)).cell? ⟨wr.heap.size, 1, none⟩ = some (.slice Au x.2.length cu) := by simp [go_sem]
          have hb1 := (hW1.block w.heap.size hzr).trans hbx
          have hU1 := hu.below hW1 hP1
          have hR1 := hRA.below hW1 fun b hb => hb.2
          have hB1 := hB.trans (hW1.mono hs)
          have HB1 := Lib.hid hB1
          have HR1 := Lib.hid (hR1.mono (P' := fun b => b < (wr.alloc (.cells #[.int .i64 x.1, .slice Au x.2.length cu] 37)).heap.size) fun b hb => Nat.lt_trans hb.2 hz1)
          have HU1 := Lib.hid (hU1.mono (P' := fun b => b < (wr.alloc (.cells #[.int .i64 x.1, .slice Au x.2.length cu] 37)).heap.size) fun b hb => Nat.lt_trans (hP1 b hb) hz1)
          have Hb1 := Lib.hid hb1
          have hs1 := hB1.size
          obtain ⟨s, hse⟩ : ∃ s, seek out x.1 = s := ⟨_, rfl⟩
          rw [hse] at hJ
          have Hse := Lib.hid hse
          have HJ := Lib.hid hJ
          clear hx hse hJ hbx hB hvr hu hRA hU1 hR1 hb1 hP1 hB1 hW1
          go_wp2_with fail
          generalize wr.alloc (.cells #[.int .i64 x.1, .slice Au x.2.length cu] 37) = W1 at *
          refine (get_any _ A1 c1 out x.1 W1 HR1.out (fun b hb => hb)).mono ?_
          rw [Hse.out]
          rintro e w2 ⟨A3, c3, rfl, hr3, hB3⟩
          have hs3 := hB3.size
          have n0 := (hB3.cell (p := ⟨wr.heap.size, 0, none⟩) hz1).trans m0
          have n1 := (hB3.cell (p := ⟨wr.heap.size, 1, none⟩) hz1).trans m1
          have HU2 := Lib.hid ((HU1.out.below hB3 fun b hb => hb).mono (P' := fun b => b < w2.heap.size) fun b hb => Nat.lt_of_lt_of_le hb hs3)
          have hP2 := put_any (fun b => b < w2.heap.size) A1 c1 out x Au cu w2 ((HR1.out.below hB3 fun b hb => hb).mono fun b hb => Nat.lt_of_lt_of_le hb hs3) HU2.out (fun b hb => hb) hol
          have HP2 := Lib.hid hP2
          have HB3 := Lib.hid (HB1.out.trans (hB3.mono hs1))
          have hs3' := HB3.out.size
          have hz3 : w.heap.size < w2.heap.size := by omega
          have Hb3 := Lib.hid ((hB3.block w.heap.size (by omega)).trans Hb1.out)
          have Hr3 := Lib.hid hr3
          clear hr3 hP2 HB1 HR1 HU1 Hb1 m0 m1 hB3 Hse
          cases s with
          | none =>
            go_wp2_with fail
            refine HP2.out.mono ?_
            rintro e w5 ⟨A5, c5, cs5, rfl, hO5, hB5⟩
            have HO5 := Lib.hid (hO5.ra.mono (P' := In w.heap.size w5.heap.size) fun b hb => ⟨by have := hb.1; omega, hb.2⟩)
            have HX5 := Lib.hid (HB3.out.trans (hB5.mono hs3'))
            have Hb5 := Lib.hid ((hB5.block w.heap.size hz3).trans Hb3.out)
            clear hO5
            go_wp2
            go_roundw
            case rel => exact ⟨k + 1, putOf out x, A5, c5, by omega, by go_num, rfl, HO5.out, Hlen.out, HJ.out, Hb5.out, HX5.out⟩
            case measure => simp [intOf]; omega
          | some b =>
            go_wp2_with fail
            refine (equal_any _ (fun b => b < w2.heap.size) A3 Au c3 cu b x.2 w2 Hr3.out HU2.out).mono ?_
            by_cases he : b = x.2
            · have hd : decide (b = x.2) = true := by simp [he]
              have HJ := Lib.hid (show ((joinOn (putOf out x) (l.drop (k + 1))).bind fun o => joinOn o t) = R from by simpa [he] using HJ.out)
              rw [hd]
              clear hd he
              rintro e w4 ⟨rfl, rfl⟩
              go_wp2_with fail
              refine HP2.out.mono ?_
              rintro e w5 ⟨A5, c5, cs5, rfl, hO5, hB5⟩
              have HO5 := Lib.hid (hO5.ra.mono (P' := In w.heap.size w5.heap.size) fun b hb => ⟨by have := hb.1; omega, hb.2⟩)
              have HX5 := Lib.hid (HB3.out.trans (hB5.mono hs3'))
              have Hb5 := Lib.hid ((hB5.block w.heap.size hz3).trans Hb3.out)
              clear hO5
              go_wp2
              go_roundw
              case rel => exact ⟨k + 1, putOf out x, A5, c5, by omega, by go_num, rfl, HO5.out, Hlen.out, HJ.out, Hb5.out, HX5.out⟩
              case measure => simp [intOf]; omega
            · have hd : decide (b = x.2) = false := by simp [he]
              have HN := Lib.hid (show R = none from by simpa [he] using HJ.out.symm)
              rw [hd]
              clear hd he
              rintro e w4 ⟨rfl, rfl⟩
              go_wp2
              go_ret2
              exact ⟨joinP_no HN.out, HB3.out⟩
        · obtain rfl : k = l.length := by omega
          have HJ := Lib.hid hJ
          have HRA := Lib.hid hRA
          have Hb2 := Lib.hid hbx
          have HB2 := Lib.hid hB
          clear hJ hRA hbx hB
          go_wp2
          go_roundw
          case rel => exact ⟨1, out, A1, c1, by go_num, rfl, HRA.out, Hb2.out, HB2.out, .inr (.inl ⟨rfl, by omega, by simpa [joinOn] using HJ.out⟩)⟩
          case measure => first | (simp [intOf]; done) | (simp [intOf]; decide)
    · have Hj := Lib.hid hj
      clear hj
      clear x0
      go_wp2
      go_loopw [6, 23] (fun v i wr => ∃ (k : Nat) (out : Attrs) (A1 : Option Addr) (c1 : Nat), k ≤ t.length ∧ i = .int .i64 k ∧ v = .slice A1 out.length c1 ∧ RA wr (In w.heap.size wr.heap.size) A1 c1 out ∧ out.length ≤ 2000 + k ∧ joinOn out (t.drop k) = R ∧ wr.heap[w.heap.size]? = some (.cells #[.slice A l.length c, .slice A' t.length c'] 24 (0, 0)) ∧ Below w.heap.size w wr) (fun _ i _ => t.length - (intOf i).toNat)
      case atStart => exact ⟨0, out0, A0, c0, Nat.zero_le _, rfl, rfl, HRA0.out, by omega, Hj.out, Hbx.out, HB.out⟩
      case round =>
        clear HB HRA0 Hbx x1
        obtain ⟨k, out, A1, c1, hk, rfl, rfl, hRA, hlen, hJ, hbx, hB⟩ := hrel
        have hs := hB.size
        have hzr := blk_lt hbx
        by_cases hlt : k < t.length
        · have hvr := hv'.below hB hP'
          obtain ⟨ad, Au, cu, rfl, hb, hc1, hc2, hu⟩ := hvr.at_ hlt
          have hP1 : ∀ b, P' b → b < wr.heap.size := fun b hb => Nat.lt_of_lt_of_le (hP' b hb) hs
          obtain ⟨x, hx⟩ : ∃ x, t[k] = x := ⟨_, rfl⟩
          rw [hx] at hc1 hc2 hu
          rw [join_step hlt hx] at hJ
          have hol : out.length ≤ 100000 := by omega
          have Hlen := Lib.hid (show (putOf out x).length ≤ 2000 + (k + 1) from Nat.le_trans (length_putOf out x) (by omega))
          have hz1 : wr.heap.size < (wr.alloc (.cells #[.int .i64 x.1, .slice Au x.2.length cu] 37)).heap.size := by simp
          have hW1 : Below wr.heap.size wr (wr.alloc (.cells #[.int .i64 x.1, .slice Au x.2.length cu] 37)) := (Below.refl _ _).alloc (Nat.le_refl _) _
          have m0 : (wr.alloc (.cells #[.int .i64 x.1, .slice Au x.2.length cu] 37)).cell? ⟨wr.heap.size, 0, none⟩ = some (.int .i64 x.1) := by simp [go_sem]
          have m1 : (wr.alloc (.cells #[.int .i64 x.1, .slice Au x.2.length cu] 37)).cell? ⟨wr.heap.size, 1, none⟩ = some (.slice Au x.2.length cu) := by simp [go_sem]
          have hb1 := (hW1.block w.heap.size hzr).trans hbx
          have hU1 := hu.below hW1 hP1
          have hR1 := hRA.below hW1 fun b hb => hb.2
          have hB1 := hB.trans (hW1.mono hs)
          have HB1 := Lib.hid hB1
          have HR1 := Lib.hid (hR1.mono (P' := fun b => b < (wr.alloc (.cells #[.int .i64 x.1, .slice Au x.2.length cu] 37)).heap.size) fun b hb => Nat.lt_trans hb.2 hz1)
          have HU1 := Lib.hid (hU1.mono (P' := fun b => b < (wr.alloc (.cells #[.int .i64 x.1, .slice Au x.2.length cu] 37)).heap.size) fun b hb => Nat.lt_trans (hP1 b hb) hz1)
          have Hb1 := Lib.hid hb1
          have hs1 := hB1.size
          obtain ⟨s, hse⟩ : ∃ s, seek out x.1 = s := ⟨_, rfl⟩
          rw [hse] at hJ
          have Hse := Lib.hid hse
          have HJ := Lib.hid hJ
          clear hx hse hJ hbx hB hvr hu hRA hU1 hR1 hb1 hP1 hB1 hW1
          go_wp2_with fail
          generalize wr.alloc (.cells #[.int .i64 x.1, .slice Au x.2.length cu] 37) = W1 at *
          refine (get_any _ A1 c1 out x.1 W1 HR1.out (fun b hb => hb)).mono ?_
          rw [Hse.out]
          rintro e w2 ⟨A3, c3, rfl, hr3, hB3⟩
          have hs3 := hB3.size
          have n0 := (hB3.cell (p := ⟨wr.heap.size, 0, none⟩) hz1).trans m0
          have n1 := (hB3.cell (p := ⟨wr.heap.size, 1, none⟩) hz1).trans m1
          have HU2 := Lib.hid ((HU1.out.below hB3 fun b hb => hb).mono (P' := fun b => b < w2.heap.size) fun b hb => Nat.lt_of_lt_of_le hb hs3)
          have hP2 := put_any (fun b => b < w2.heap.size) A1 c1 out x Au cu w2 ((HR1.out.below hB3 fun b hb => hb).mono fun b hb => Nat.lt_of_lt_of_le hb hs3) HU2.out (fun b hb => hb) hol
          have HP2 := Lib.hid hP2
          have HB3 := Lib.hid (HB1.out.trans (hB3.mono hs1))
          have hs3' := HB3.out.size
          have hz3 : w.heap.size < w2.heap.size := by omega
          have Hb3 := Lib.hid ((hB3.block w.heap.size (by omega)).trans Hb1.out)
          have Hr3 := Lib.hid hr3
          clear hr3 hP2 HB1 HR1 HU1 Hb1 m0 m1 hB3 Hse
          cases s with
          | none =>
            go_wp2_with fail
            refine HP2.out.mono ?_
            rintro e w5 ⟨A5, c5, cs5, rfl, hO5, hB5⟩
            have HO5 := Lib.hid (hO5.ra.mono (P' := In w.heap.size w5.heap.size) fun b hb => ⟨by have := hb.1; omega, hb.2⟩)
            have HX5 := Lib.hid (HB3.out.trans (hB5.mono hs3'))
            have Hb5 := Lib.hid ((hB5.block w.heap.size hz3).trans Hb3.out)
            clear hO5
            go_wp2
            go_roundw
            case rel => exact ⟨k + 1, putOf out x, A5, c5, by omega, by go_num, rfl, HO5.out, Hlen.out, HJ.out, Hb5.out, HX5.out⟩
            case measure => simp [intOf]; omega
          | some b =>
            go_wp2_with fail
            refine (equal_any _ (fun b => b < w2.heap.size) A3 Au c3 cu b x.2 w2 Hr3.out HU2.out).mono ?_
            by_cases he : b = x.2
            · have hd : decide (b = x.2) = true := by simp [he]
              have HJ := Lib.hid (show joinOn (putOf out x) (t.drop (k + 1)) = R from by simpa [he] using HJ.out)
              rw [hd]
              clear hd he
              rintro e w4 ⟨rfl, rfl⟩
              go_wp2_with fail
              refine HP2.out.mono ?_
              rintro e w5 ⟨A5, c5, cs5, rfl, hO5, hB5⟩
              have HO5 := Lib.hid (hO5.ra.mono (P' := In w.heap.size w5.heap.size) fun b hb => ⟨by have := hb.1; omega, hb.2⟩)
              have HX5 := Lib.hid (HB3.out.trans (hB5.mono hs3'))
              have Hb5 := Lib.hid ((hB5.block w.heap.size hz3).trans Hb3.out)
              clear hO5
              go_wp2
              go_roundw
              case rel => exact ⟨k + 1, putOf out x, A5, c5, by omega, by go_num, rfl, HO5.out, Hlen.out, HJ.out, Hb5.out, HX5.out⟩
              case measure => simp [intOf]; omega
            · have hd : decide (b = x.2) = false := by simp [he]
              have HN := Lib.hid (show R = none from by simpa [he] using HJ.out.symm)
              rw [hd]
              clear hd he
              rintro e w4 ⟨rfl, rfl⟩
              go_wp2
              go_ret2
              exact ⟨joinP_no HN.out, HB3.out⟩
        · obtain rfl : k = t.length := by omega
          have HJ := Lib.hid hJ
          have HRA := Lib.hid hRA
          have Hb2 := Lib.hid hbx
          have HB2 := Lib.hid hB
          clear hJ hRA hbx hB
          go_wp2
          go_roundw
          case rel => exact ⟨2, out, A1, c1, by go_num, rfl, HRA.out, Hb2.out, HB2.out, .inr (.inr ⟨rfl, by simpa [joinOn] using HJ.out⟩)⟩
          case measure => first | (simp [intOf]; done) | (simp [intOf]; decide)
end Go.Proofs.YtendnkpiidhogaaGreat.At

namespace Go.Proofs.YtendnkpiidhogaaGreat.At
open Go.RowKit Go.Shelf

theorem set3 {w : World} {s : Nat} {t : TypeId} {a b c : Value} (h : w.heap[s]? = some (.cells #[a, b, c] t (0, 0))) (u v x : Value) : (((w.setCell ⟨s, 0, none⟩ u).setCell ⟨s, 1, none⟩ v).setCell ⟨s, 2, none⟩ x).heap[s]? = some (.cells #[u, v, x] t (0, 0)) := by
 simpa using bset (bset (bset h 0 u) 1 v) 2 x
theorem set3a {w : World} {s : Nat} {t : TypeId} {a b c : Value} (h : w.heap[s]? = some (.cells #[a, b, c] t (0, 0))) (u v x : Value) (o : Obj) : ((((w.setCell ⟨s, 0, none⟩ u).setCell ⟨s, 1, none⟩ v).setCell ⟨s, 2, none⟩ x).alloc o).heap[s]? = some (.cells #[u, v, x] t (0, 0)) :=
 (Below.heap_alloc _ _ _ (blk_lt (set3 h u v x))).trans (set3 h u v x)

end Go.Proofs.YtendnkpiidhogaaGreat.At

namespace Go.Proofs.YtendnkpiidhogaaGreat

def val (B : Nat) : List Nat → Nat
 | [] => 0
 | x :: l => x + B * val B l
def digs (B : Nat) (n : Nat) : List Nat := if _h : 2 ≤ B ∧ 0 < n then n % B :: digs B (n / B) else []
termination_by n
decreasing_by exact Nat.div_lt_self _h.2 _h.1

@[simp] theorem val_nil (B : Nat) : val B [] = 0 := rfl
@[simp] theorem val_cons (B x : Nat) (l : List Nat) : val B (x :: l) = x + B * val B l := rfl
theorem digs_zero (B : Nat) : digs B 0 = [] := by rw [digs]; simp
theorem digs_pos {B n : Nat} (hB : 2 ≤ B) (hn : 0 < n) : digs B n = n % B :: digs B (n / B) := by rw [digs]; simp [hB, hn]
theorem val_digs {B : Nat} (hB : 2 ≤ B) (n : Nat) : val B (digs B n) = n := by
  induction n using Nat.strongRecOn with
  | ind n ih =>
    rcases Nat.eq_zero_or_pos n with h | h
    · subst h; rw [digs_zero]; rfl
    · rw [digs_pos hB h, val_cons, ih _ (Nat.div_lt_self h hB)]
      exact Nat.mod_add_div n B
theorem digs_lt {B : Nat} (hB : 2 ≤ B) (n : Nat) : ∀ x ∈ digs B n, x < B := by
  induction n using Nat.strongRecOn with
  | ind n ih =>
    rcases Nat.eq_zero_or_pos n with h | h
    · subst h; rw [digs_zero]; simp
    · rw [digs_pos hB h]
      intro x hx
      rcases List.mem_cons.1 hx with rfl | hx
      · exact Nat.mod_lt _ (by omega)
      · exact ih _ (Nat.div_lt_self h hB) x hx
theorem val_append (B : Nat) (l m : List Nat) : val B (l ++ m) = val B l + B ^ l.length * val B m := by
 induction l with
 | nil => simp
 | cons x l ih => simp [ih, Nat.pow_succ, Nat.mul_add, Nat.mul_assoc, Nat.mul_comm, Nat.add_assoc]
theorem val_lt {B : Nat} {l : List Nat} (h : ∀ x ∈ l, x < B) : val B l < B ^ l.length := by
  induction l with
  | nil => simp
  | cons x l ih =>
    have h1 := h x (by simp)
    have h2 := ih fun y hy => h y (by simp [hy])
    simp only [val_cons, List.length_cons, Nat.pow_succ]
    have : B * (val B l + 1) ≤ B * B ^ l.length := Nat.mul_le_mul_left _ h2
    rw [Nat.mul_add] at this
    rw [Nat.mul_comm (B ^ l.length)]
    omega
theorem val_zeros {B : Nat} {l : List Nat} (h : ∀ x ∈ l, x = 0) : val B l = 0 := by
 induction l with
 | nil => rfl
 | cons x l ih => rw [val_cons, h x (by simp), ih fun y hy => h y (by simp [hy])]; simp
theorem val_replicate (B n : Nat) : val B (List.replicate n 0) = 0 := val_zeros (by simp)
theorem val_take_drop (B : Nat) (l : List Nat) {n : Nat} (hn : n ≤ l.length) : val B l = val B (l.take n) + B ^ n * val B (l.drop n) := by
 have := val_append B (l.take n) (l.drop n)
 rwa [List.take_append_drop, List.length_take, Nat.min_eq_left hn] at this
theorem val_take_succ (B : Nat) {l : List Nat} {n : Nat} (hn : n < l.length) : val B (l.take (n + 1)) = val B (l.take n) + B ^ n * l[n] := by
 rw [List.take_succ_eq_append_getElem hn, val_append, List.length_take, Nat.min_eq_left (by omega)]
 simp
theorem val_set (B : Nat) {l : List Nat} {n : Nat} (hn : n < l.length) (x : Nat) : val B (l.set n x) + B ^ n * l[n] = val B l + B ^ n * x := by
 have h1 := val_take_drop B l (Nat.le_of_lt hn)
 have h2 := val_take_drop B (l.set n x) (n := n) (by simp; omega)
 have h3 : l.drop n = l[n] :: l.drop (n + 1) := List.drop_eq_getElem_cons hn
 have h4 : (l.set n x).drop n = x :: l.drop (n + 1) := by
  rw [List.drop_set, if_neg (Nat.lt_irrefl _), h3, Nat.sub_self, List.set_cons_zero]
 have h5 : (l.set n x).take n = l.take n := by rw [List.take_set]; apply List.set_eq_of_length_le; simp; omega
 rw [h4, h5, val_cons] at h2
 rw [h3, val_cons] at h1
 rw [h1, h2]
 simp only [Nat.mul_add]
 omega
theorem digs_val {B : Nat} (hB : 2 ≤ B) : ∀ {l : List Nat}, (∀ x ∈ l, x < B) → (∀ h : l ≠ [], l.getLast h ≠ 0) → digs B (val B l) = l
  | [], _, _ => digs_zero B
  | x :: l, h, hl => by
    have hx := h x (by simp)
    have hpos : 0 < val B (x :: l) := by
      rcases Nat.eq_zero_or_pos (val B (x :: l)) with h0 | h0
      · exfalso
        have hz : ∀ (m : List Nat) (hm : m ≠ []), val B m = 0 → m.getLast hm = 0 := by
          intro m
          induction m with
          | nil => intro hm; exact absurd rfl hm
          | cons y m ih =>
            intro hm hv
            rw [val_cons] at hv
            have hy : y = 0 := by omega
            have hB0 : B * val B m = 0 := by omega
            rcases Nat.mul_eq_zero.1 hB0 with h' | h'
            · omega
            · rcases m with _ | ⟨z, m⟩
              · simpa using hy
              · rw [List.getLast_cons (by simp)]; exact ih (by simp) h'
        exact hl (by simp) (hz _ _ h0)
      · exact h0
    rw [digs_pos hB hpos]
    have e1 : val B (x :: l) % B = x := by rw [val_cons, Nat.add_mul_mod_self_left, Nat.mod_eq_of_lt hx]
    have e2 : val B (x :: l) / B = val B l := by rw [val_cons, Nat.add_mul_div_left _ _ (by omega), Nat.div_eq_of_lt hx]; omega
    rw [e1, e2, digs_val hB (fun y hy => h y (by simp [hy])) fun hne => by
      have := hl (by simp)
      rwa [List.getLast_cons hne] at this]
theorem digs_last {B : Nat} (hB : 2 ≤ B) (n : Nat) (h : digs B n ≠ []) : (digs B n).getLast h ≠ 0 := by
  induction n using Nat.strongRecOn with
  | ind n ih =>
    rcases Nat.eq_zero_or_pos n with h0 | h0
    · subst h0; exact absurd (digs_zero B) h
    · rcases Nat.eq_zero_or_pos (n / B) with h1 | h1
      · have e : digs B n = [n % B] := by rw [digs_pos hB h0, h1, digs_zero]
        have hlt : n < B := by rcases Nat.lt_or_ge n B with h | h; exact h; have := Nat.div_pos h (by omega); omega
        simp only [e, List.getLast_singleton]
        rw [Nat.mod_eq_of_lt hlt]; omega
      · have e := digs_pos hB h0
        have hne : digs B (n / B) ≠ [] := by rw [digs_pos hB h1]; simp
        simp only [e, List.getLast_cons hne]
        exact ih _ (Nat.div_lt_self h0 hB) hne
theorem take_digs {B : Nat} (hB : 2 ≤ B) {l : List Nat} (hl : ∀ x ∈ l, x < B) {n : Nat} (hn : n ≤ l.length) (hz : ∀ x ∈ l.drop n, x = 0) (h0 : 0 < n → l.getD (n - 1) 0 ≠ 0) : l.take n = digs B (val B l) := by
 have e : val B l = val B (l.take n) := by rw [val_take_drop B l hn, val_zeros hz]; simp
 rw [e]
 refine (digs_val hB (fun x hx => hl x (List.mem_of_mem_take hx)) fun hne => ?_).symm
 have hn0 : 0 < n := by
  rcases Nat.eq_zero_or_pos n with h | h
  · subst h; simp at hne
  · exact h
 have := h0 hn0
 rw [List.getLast_eq_getElem, List.getElem_take]
 simp only [List.length_take, Nat.min_eq_left hn]
 rwa [List.getD_eq_getElem?_getD, List.getElem?_eq_getElem (by omega), Option.getD_some] at this
theorem digs_length_le {B : Nat} (hB : 2 ≤ B) {l : List Nat} (hl : ∀ x ∈ l, x < B) : (digs B (val B l)).length ≤ l.length := by
  rcases Nat.lt_or_ge l.length (digs B (val B l)).length with h | h
  · exfalso
    have h1 := val_lt hl
    have hne : digs B (val B l) ≠ [] := by intro e; rw [e] at h; simp at h
    have h2 : B ^ ((digs B (val B l)).length - 1) ≤ val B l := by
      generalize val B l = v at hne ⊢
      have := digs_last hB v hne
      have h3 := val_digs hB v
      obtain ⟨m, x, hm⟩ : ∃ m x, digs B v = m ++ [x] := ⟨_, _, (List.dropLast_concat_getLast hne).symm⟩
      have hx : x ≠ 0 := by have h4 : (digs B v).getLast hne = x := by simp [hm]
                            rw [h4] at this; exact this
      rw [hm, val_append] at h3
      rw [hm]
      simp at h3 ⊢
      rw [← h3]
      have : B ^ m.length * 1 ≤ B ^ m.length * x := Nat.mul_le_mul_left _ (by omega)
      omega
    have h3 : B ^ l.length ≤ B ^ ((digs B (val B l)).length - 1) := Nat.pow_le_pow_right (by omega) (by omega)
    omega
  · exact h
theorem pow_digs_le {B : Nat} (hB : 2 ≤ B) {v : Nat} (hv : 0 < v) : B ^ ((digs B v).length - 1) ≤ v := by
 have hne : digs B v ≠ [] := by rw [digs_pos hB hv]; simp
 have := digs_last hB v hne
 have h3 := val_digs hB v
 obtain ⟨m, x, hm⟩ : ∃ m x, digs B v = m ++ [x] := ⟨_, _, (List.dropLast_concat_getLast hne).symm⟩
 have hx : x ≠ 0 := by
  have h4 : (digs B v).getLast hne = x := by simp [hm]
  rw [h4] at this; exact this
 rw [hm, val_append] at h3
 rw [hm]
 simp at h3 ⊢
 rw [← h3]
 have : B ^ m.length * 1 ≤ B ^ m.length * x := Nat.mul_le_mul_left _ (by omega)
 omega
theorem lt_pow_digs {B : Nat} (hB : 2 ≤ B) (v : Nat) : v < B ^ (digs B v).length := by
 have := val_lt (digs_lt hB v)
 rwa [val_digs hB] at this
theorem digs_length_of_lt {B : Nat} (hB : 2 ≤ B) {v n : Nat} (h : v < B ^ n) : (digs B v).length ≤ n := by
 rcases Nat.eq_zero_or_pos v with h0 | h0
 · subst h0; rw [digs_zero]; simp
 · have h1 := pow_digs_le hB h0
   rcases Nat.lt_or_ge n (digs B v).length with h2 | h2
   · have : B ^ n ≤ B ^ ((digs B v).length - 1) := Nat.pow_le_pow_right (by omega) (by omega)
     omega
   · exact h2
theorem digs_length_mono {B : Nat} (hB : 2 ≤ B) {m n : Nat} (h : m ≤ n) : (digs B m).length ≤ (digs B n).length :=
 digs_length_of_lt hB (Nat.lt_of_le_of_lt h (lt_pow_digs hB n))
theorem lt_of_digs_length {B : Nat} (hB : 2 ≤ B) {m n : Nat} (h : (digs B m).length < (digs B n).length) : m < n := by
 rcases Nat.lt_or_ge m n with h1 | h1
 · exact h1
 · have := digs_length_mono hB h1; omega
theorem val_lt_of {B : Nat} {l m : List Nat} (hl : ∀ x ∈ l, x < B) (hlen : l.length = m.length) {i : Nat} (hi : i < l.length) (hd : l.drop (i + 1) = m.drop (i + 1)) (h : l[i] < m[i]'(by omega)) : val B l < val B m := by
 have h1 := val_take_drop B l (n := i + 1) (by omega)
 have h2 := val_take_drop B m (n := i + 1) (by omega)
 rw [val_take_succ B hi] at h1
 rw [val_take_succ B (by omega)] at h2
 have h3 : val B (l.take i) < B ^ i := by
  have := val_lt (B := B) (l := l.take i) fun x hx => hl x (List.mem_of_mem_take hx)
  rwa [List.length_take, Nat.min_eq_left (by omega)] at this
 have h4 : B ^ i * (l[i] + 1) ≤ B ^ i * m[i]'(by omega) := Nat.mul_le_mul_left _ h
 rw [Nat.mul_add] at h4
 rw [hd] at h1
 omega
end Go.Proofs.YtendnkpiidhogaaGreat

namespace Go.Proofs.YtendnkpiidhogaaGreat

def dg (l : List Nat) (i : Nat) : Nat := l.getD i 0

theorem getD_eq' {l : List Nat} {i : Nat} (h : i < l.length) : l.getD i 0 = l[i] := by
 rw [List.getD_eq_getElem?_getD, List.getElem?_eq_getElem h, Option.getD_some]
theorem val_take_getD (B : Nat) (l : List Nat) (k : Nat) : val B (l.take (k + 1)) = val B (l.take k) + B ^ k * dg l k := by
 rcases Nat.lt_or_ge k l.length with h | h
 · rw [val_take_succ B h, dg, List.getD_eq_getElem?_getD, List.getElem?_eq_getElem h, Option.getD_some]
 · rw [List.take_of_length_le (by omega), List.take_of_length_le h, dg, List.getD_eq_getElem?_getD, List.getElem?_eq_none h]
   simp
theorem val_take_set (B : Nat) {o : List Nat} {k : Nat} (h : k < o.length) (s : Nat) : val B ((o.set k s).take (k + 1)) = val B (o.take k) + B ^ k * s := by
 rw [val_take_getD, List.take_set, List.set_eq_of_length_le (by simp; omega), dg, List.getD_eq_getElem?_getD, List.getElem?_set_self h, Option.getD_some]
def AddAt (B : Nat) (a b o : List Nat) (k c : Nat) : Prop := val B (o.take k) + B ^ k * c = val B (a.take k) + val B (b.take k)
theorem AddAt.zero (B : Nat) (a b o : List Nat) : AddAt B a b o 0 0 := by simp [AddAt]
theorem AddAt.step {B : Nat} {a b o : List Nat} {k c s c' : Nat} (h : AddAt B a b o k c) (hk : k < o.length) (he : s + B * c' = dg a k + dg b k + c) : AddAt B a b (o.set k s) (k + 1) c' := by
 unfold AddAt at *
 rw [val_take_set B hk, val_take_getD, val_take_getD, Nat.pow_succ]
 have : B ^ k * (s + B * c') = B ^ k * (dg a k + dg b k + c) := by rw [he]
 simp only [Nat.mul_add, ← Nat.mul_assoc] at this
 omega
theorem AddAt.fin {B : Nat} {a b o : List Nat} {k c : Nat} (h : AddAt B a b o k c) (hk : o.length = k + 1) (ha : a.length ≤ k) (hb : b.length ≤ k) : val B (o.set k c) = val B a + val B b := by
 unfold AddAt at h
 rw [List.take_of_length_le ha, List.take_of_length_le hb] at h
 have := val_take_set B (o := o) (k := k) (by omega) c
 rw [List.take_of_length_le (by simp; omega)] at this
 rw [this, h]
def SubAt (B : Nat) (a b o : List Nat) (k c : Nat) : Prop := val B (o.take k) + val B (b.take k) = val B (a.take k) + B ^ k * c
theorem SubAt.zero (B : Nat) (a b o : List Nat) : SubAt B a b o 0 0 := by simp [SubAt]
theorem SubAt.step {B : Nat} {a b o : List Nat} {k c s c' : Nat} (h : SubAt B a b o k c) (hk : k < o.length) (he : s + dg b k + c = dg a k + B * c') : SubAt B a b (o.set k s) (k + 1) c' := by
 unfold SubAt at *
 rw [val_take_set B hk, val_take_getD, val_take_getD, Nat.pow_succ]
 have : B ^ k * (s + dg b k + c) = B ^ k * (dg a k + B * c') := by rw [he]
 simp only [Nat.mul_add, ← Nat.mul_assoc] at this
 omega
theorem SubAt.fin {B : Nat} {a b o : List Nat} {k c : Nat} (h : SubAt B a b o k c) (hk : o.length = k) (ho : ∀ x ∈ o, x < B) (ha : a.length = k) (hb : b.length ≤ k) (hle : val B b ≤ val B a) : val B o = val B a - val B b := by
 unfold SubAt at h
 rw [List.take_of_length_le (by omega), List.take_of_length_le hb, List.take_of_length_le (by omega)] at h
 have h1 := val_lt ho
 rw [hk] at h1
 rcases Nat.eq_zero_or_pos c with h0 | h0
 · subst h0; omega
 · have : B ^ k * 1 ≤ B ^ k * c := Nat.mul_le_mul_left _ h0
   omega
def MulAt (B : Nat) (o0 b : List Nat) (x i : Nat) (o : List Nat) (j c : Nat) : Prop :=
 o.length = o0.length ∧ val B o + B ^ (i + j) * c = val B o0 + B ^ i * (x * val B (b.take j)) ∧ (∀ n, i + j ≤ n → dg o n = dg o0 n)
theorem MulAt.zero (B : Nat) (o0 b : List Nat) (x i : Nat) : MulAt B o0 b x i o0 0 0 := by simp [MulAt]
theorem getD_set_ne {l : List Nat} {i j x : Nat} (h : i ≠ j) : dg (l.set i x) j = dg l j := by
 simp [dg, List.getD_eq_getElem?_getD, List.getElem?_set_ne h]
theorem getD_set_eq {l : List Nat} {i x : Nat} (h : i < l.length) : dg (l.set i x) i = x := by
 simp [dg, List.getD_eq_getElem?_getD, List.getElem?_set_self h]
theorem getD_eq {l : List Nat} {i : Nat} (h : i < l.length) : dg l i = l[i] := by
 rw [dg, List.getD_eq_getElem?_getD, List.getElem?_eq_getElem h, Option.getD_some]
theorem val_set' (B : Nat) {l : List Nat} {n : Nat} (hn : n < l.length) (x : Nat) : val B (l.set n x) + B ^ n * dg l n = val B l + B ^ n * x := by
 rw [getD_eq hn]; exact val_set B hn x
theorem MulAt.step {B : Nat} {o0 b o : List Nat} {x i j c s c' : Nat} (h : MulAt B o0 b x i o j c) (hk : i + j < o.length) (he : s + B * c' = x * dg b j + dg o (i + j) + c) :
 MulAt B o0 b x i (o.set (i + j) s) (j + 1) c' := by
 obtain ⟨h1, h2, h3⟩ := h
 refine ⟨by simpa using h1, ?_, fun n hn => by rw [getD_set_ne (by omega), h3 n (by omega)]⟩
 have hs := val_set' B hk s
 rw [val_take_getD, ← Nat.add_assoc, Nat.pow_succ]
 have e1 : B ^ (i + j) * (s + B * c') = B ^ (i + j) * (x * dg b j + dg o (i + j) + c) := by rw [he]
 simp only [Nat.mul_add, ← Nat.mul_assoc] at e1 ⊢
 have e2 : B ^ i * x * B ^ j * dg b j = B ^ (i + j) * x * dg b j := by
  rw [Nat.pow_add]; simp only [Nat.mul_comm, Nat.mul_assoc]
 simp only [← Nat.mul_assoc] at h2
 omega
theorem MulAt.fin {B : Nat} {o0 b o : List Nat} {x i n c : Nat} (h : MulAt B o0 b x i o n c) (hn : b.length = n) (hk : i + n < o.length) (h0 : dg o0 (i + n) = 0) : val B (o.set (i + n) c) = val B o0 + B ^ i * (x * val B b) := by
 obtain ⟨h1, h2, h3⟩ := h
 have hs := val_set' B hk c
 rw [h3 _ (Nat.le_refl _), h0] at hs
 rw [List.take_of_length_le (by omega)] at h2
 omega
def RowAt (B : Nat) (a b o : List Nat) (i : Nat) : Prop := o.length = a.length + b.length ∧ val B o = val B (a.take i) * val B b ∧ ∀ n, i + b.length ≤ n → dg o n = 0
theorem RowAt.zero (B : Nat) (a b : List Nat) : RowAt B a b (List.replicate (a.length + b.length) 0) 0 := by
 refine ⟨by simp, by simp [val_replicate], fun n _ => ?_⟩
 rw [dg, List.getD_eq_getElem?_getD, List.getElem?_replicate]
 split <;> rfl
theorem RowAt.step {B : Nat} {a b o0 o : List Nat} {i c : Nat} (h : RowAt B a b o0 i) (hi : i < a.length) (hm : MulAt B o0 b (dg a i) i o b.length c) : RowAt B a b (o.set (i + b.length) c) (i + 1) := by
 obtain ⟨h1, h2, h3⟩ := h
 have hl := hm.1
 refine ⟨by simpa [hl] using h1, ?_, fun n hn => ?_⟩
 · rw [hm.fin rfl (by omega) (h3 _ (Nat.le_refl _)), h2, val_take_getD, Nat.add_mul, Nat.mul_assoc]
 · rw [getD_set_ne (by omega), hm.2.2 n (by omega), h3 n (by omega)]
theorem RowAt.fin {B : Nat} {a b o : List Nat} (h : RowAt B a b o a.length) : val B o = val B a * val B b := by
 have := h.2.1
 rwa [List.take_length] at this
theorem set_lt {B : Nat} {o : List Nat} (h : ∀ x ∈ o, x < B) {k s : Nat} (hs : s < B) : ∀ x ∈ o.set k s, x < B := by
 intro x hx
 rcases List.mem_or_eq_of_mem_set hx with hx | rfl
 · exact h x hx
 · exact hs
theorem mul_bound {B x y u c : Nat} (hx : x < B) (hy : y < B) (hu : u < B) (hc : c < B) : x * y + u + c < B * B := by
 obtain ⟨n, rfl⟩ : ∃ n, B = n + 1 := ⟨B - 1, by omega⟩
 have : x * y ≤ n * n := Nat.mul_le_mul (by omega) (by omega)
 simp only [Nat.add_mul, Nat.mul_add, Nat.mul_one, Nat.one_mul]
 omega
theorem getD_lt {B : Nat} (hB : 0 < B) {l : List Nat} (h : ∀ x ∈ l, x < B) (i : Nat) : dg l i < B := by
 rcases Nat.lt_or_ge i l.length with hi | hi
 · rw [getD_eq hi]; exact h _ (List.getElem_mem hi)
 · rw [dg, List.getD_eq_getElem?_getD, List.getElem?_eq_none hi]; exact hB
end Go.Proofs.YtendnkpiidhogaaGreat

namespace Go.Proofs
open Go.Shelf
def Tryz.lays134_ren : Go.Shelf.Ren := ⟨fun | 134 => 207 | 129 => 135 | n => n, fun | 53 => 139 | 3 => 3 | 4 => 4 | 46 => 96 | 5 => 5 | 9 => 9 | n => n, fun | n => n⟩
theorem Tryz.lays134 : Go.Proofs.Lays.n134 Tryz.prog Tryz.lays134_ren := {
 mixed := by kernel_rfl
 f129 := Tryz.func135.trans (congrArg some (by kernel_rfl))
 f134 := Tryz.func207.trans (congrArg some (by kernel_rfl))
 t3 := Tryz.underlying3
 a3 := Tryz.isAgg3
 z3 := Tryz.sizeOf3
 v3 := Tryz.zeroValue3
 t4 := Tryz.underlying4
 a4 := Tryz.isAgg4
 z4 := Tryz.sizeOf4
 v4 := Tryz.zeroValue4
 t5 := Tryz.underlying5
 a5 := Tryz.isAgg5
 z5 := Tryz.sizeOf5
 v5 := Tryz.zeroValue5
 t9 := Tryz.underlying9
 a9 := Tryz.isAgg9
 z9 := Tryz.sizeOf9
 v9 := Tryz.zeroValue9
 t46 := Tryz.underlying96
 a46 := Tryz.isAgg96
 z46 := Tryz.sizeOf96
 v46 := Tryz.zeroValue96
 t53 := Tryz.underlying139
 a53 := Tryz.isAgg139
 z53 := Tryz.sizeOf139
 v53 := Tryz.zeroValue139 }
theorem Tryz.bits_LeadingZeros64 (x : Int) (w : World) (h0 : 0 ≤ x) (h1 : x ≤ 18446744073709551615) :
 Calls Tryz.prog 207 #[.int .u64 x] w fun e w' => e = .returned (.int .i64 (64 - (Lib.bitLen x.toNat : Int))) ∧ w' = w := Any.bits_LeadingZeros64 Tryz.lays134 x w h0 h1
def Tryz.lays129_ren : Go.Shelf.Ren := ⟨fun | 129 => 135 | n => n, fun | 53 => 139 | 3 => 3 | 4 => 4 | 46 => 96 | 5 => 5 | 9 => 9 | n => n, fun | n => n⟩
theorem Tryz.lays129 : Go.Proofs.Lays.n129 Tryz.prog Tryz.lays129_ren := {
 mixed := by kernel_rfl
 f129 := Tryz.func135.trans (congrArg some (by kernel_rfl))
 t3 := Tryz.underlying3
 a3 := Tryz.isAgg3
 z3 := Tryz.sizeOf3
 v3 := Tryz.zeroValue3
 t4 := Tryz.underlying4
 a4 := Tryz.isAgg4
 z4 := Tryz.sizeOf4
 v4 := Tryz.zeroValue4
 t5 := Tryz.underlying5
 a5 := Tryz.isAgg5
 z5 := Tryz.sizeOf5
 v5 := Tryz.zeroValue5
 t9 := Tryz.underlying9
 a9 := Tryz.isAgg9
 z9 := Tryz.sizeOf9
 v9 := Tryz.zeroValue9
 t46 := Tryz.underlying96
 a46 := Tryz.isAgg96
 z46 := Tryz.sizeOf96
 v46 := Tryz.zeroValue96
 t53 := Tryz.underlying139
 a53 := Tryz.isAgg139
 z53 := Tryz.sizeOf139
 v53 := Tryz.zeroValue139 }
theorem Tryz.bits_Len64 (x : Int) (w : World) (h0 : 0 ≤ x) (h1 : x ≤ 18446744073709551615) :
 Calls Tryz.prog 135 #[.int .u64 x] w fun e w' => e = .returned (.int .i64 (Lib.bitLen x.toNat)) ∧ w' = w := Any.bits_Len64 Tryz.lays129 x w h0 h1
def Tryz.lays264_ren : Go.Shelf.Ren := ⟨fun | 264 => 163 | n => n, fun | 53 => 139 | 46 => 96 | n => n, fun | n => n⟩
theorem Tryz.lays264 : Go.Proofs.Lays.n264 Tryz.prog Tryz.lays264_ren := {
 mixed := by kernel_rfl
 f264 := Tryz.func163.trans (congrArg some (by kernel_rfl))
 t46 := Tryz.underlying96
 a46 := Tryz.isAgg96
 z46 := Tryz.sizeOf96
 v46 := Tryz.zeroValue96
 t53 := Tryz.underlying139
 a53 := Tryz.isAgg139
 z53 := Tryz.sizeOf139
 v53 := Tryz.zeroValue139 }
open Go.RowKit Go.Lib in
theorem Tryz.bits_Mul64 (x y : Nat) (hx : x < 18446744073709551616) (hy : y < 18446744073709551616) (w : World) :
 Calls Tryz.prog 163 #[.int .u64 x, .int .u64 y] w fun e w' => e = .returned (.tuple #[.int .u64 ((x * y / 18446744073709551616 : Nat) : Int), .int .u64 ((x * y % 18446744073709551616 : Nat) : Int)]) ∧ w' = w := Any.bits_Mul64 Tryz.lays264 x y hx hy w

theorem Tryz.add64_run (x y c : Nat) (hc : c ≤ 1) (w : World) :
 (callFunc 164 #[.int .u64 x, .int .u64 y, .int .u64 c]).run Tryz.prog w =
  .ok (.value (.tuple #[.int .u64 (((x + y + c) % 18446744073709551616 : Nat) : Int), .int .u64 (((x + y + c) / 18446744073709551616 : Nat) : Int)])) w := by
 rw [run_callFunc_extern Tryz.func164 (by kernel_rfl) (by kernel_rfl) (by kernel_rfl) (e := add64Entry) (by kernel_rfl), run_add64 x y c (by omega) (by omega) (by omega) (by omega)]
 simp only [Result.andThen]
 congr 5 <;> omega
theorem Tryz.sub64_run (x y b : Nat) (hb : b ≤ 1) (w : World) :
 (callFunc 212 #[.int .u64 x, .int .u64 y, .int .u64 b]).run Tryz.prog w =
  .ok (.value (.tuple #[.int .u64 (((x + 18446744073709551616 - y - b) % 18446744073709551616 : Nat) : Int), .int .u64 ((if x < y + b then 1 else 0 : Nat) : Int)])) w := by
 rw [run_callFunc_extern Tryz.func212 (by kernel_rfl) (by kernel_rfl) (by kernel_rfl) (e := sub64Entry) (by kernel_rfl), run_sub64 x y b hb]
 rfl
end Go.Proofs

namespace Go.Proofs.YtendnkpiidhogaaGreat
open Go.RowKit

theorem eqB {a b : Int} (h : a ≠ b) : (a == b) = false := by simpa using h
theorem neB {a b : Int} (h : a ≠ b) : (a != b) = true := by simpa using h
theorem drewN_add (w : World) (n m : Nat) : (w.drewN n).drewN m = w.drewN (n + m) := by simp [World.drewN, Nat.add_assoc]
theorem drewN_3 (w : World) (n m k : Nat) : ((w.drewN n).drewN m).drewN k = w.drewN (n + m + k) := by simp [World.drewN, Nat.add_assoc]
theorem add_succ (a : Addr) (n : Nat) : a.add (n + 1) = ⟨a.block, a.off + (n + 1), none⟩ := by simp [Addr.add]
theorem dr1 (w : World) (n : Nat) : ∃ k, w.drewN n = w.drewN k := ⟨n, rfl⟩
theorem dr3 (w : World) (n m k : Nat) : ∃ d, ((w.drewN n).drewN m).drewN k = w.drewN d := ⟨_, drewN_3 _ _ _ _⟩
theorem add_blk (g j : Nat) : (⟨g, 0, none⟩ : Addr).add j = ⟨g, j, none⟩ := by
 rcases Nat.eq_zero_or_pos j with h | h
 · subst h; rfl
 · simp [Addr.add, Nat.pos_iff_ne_zero.1 h]
def nts (l : List Nat) : List Value := l.map fun x : Nat => .int .u64 (x : Int)
theorem nts_length (l : List Nat) : (nts l).length = l.length := by simp [nts]
theorem nts_get {l : List Nat} {i : Nat} (h : i < l.length) : (nts l)[i]? = some (.int .u64 (dg l i : Int)) := by
 rw [getD_eq h]; simp [nts, List.getElem?_eq_getElem h]
theorem nts_take (l : List Nat) (n : Nat) : (nts l).take n = nts (l.take n) := by simp [nts]
theorem oneCell_nts (l : List Nat) : ∀ u ∈ nts l, u.oneCell' = true := by
 intro u hu
 obtain ⟨x, _, rfl⟩ := List.mem_map.1 hu
 rfl

def Lim (l : List Nat) : Prop := (∀ x ∈ l, x < 18446744073709551616) ∧ l.length ≤ 1000000
def RN (w : World) (P : Nat → Prop) (A : Option Addr) (c : Nat) (l : List Nat) : Prop := RS w P 1 A l.length c (nts l) ∧ Lim l
def Blk (w : World) (g : Nat) (l : List Nat) : Prop := w.heap[g]? = some (.cells (nts l).toArray 139 (0, 0))
def OB (w : World) (base : Nat) (A : Option Addr) (c : Nat) (l : List Nat) : Prop :=
 Lim l ∧ l.length ≤ c ∧ c ≤ maxLen ∧ (0 < l.length → ∃ g cur, A = some ⟨g, 0, none⟩ ∧ base ≤ g ∧ w.heap[g]? = some (.cells cur 139 (0, 0)) ∧ ∀ (j : Nat) u, (nts l)[j]? = some u → cur[j]? = some u)

section
variable {w w' : World} {P P' : Nat → Prop} {A : Option Addr} {c g base : Nat} {l : List Nat}
theorem Lim.nil_ : Lim [] := ⟨by simp, by simp⟩
theorem Lim.take (h : Lim l) (n : Nat) : Lim (l.take n) := ⟨fun x hx => h.1 x (List.mem_of_mem_take hx), by rw [List.length_take]; have := h.2; omega⟩
theorem Lim.set (h : Lim l) (i x : Nat) (hx : x < 18446744073709551616) : Lim (l.set i x) := ⟨set_lt h.1 hx, by simpa using h.2⟩
theorem Lim.dgLt (h : Lim l) (i : Nat) : dg l i < 18446744073709551616 := getD_lt (by omega) h.1 i
theorem Lim.digs {B v : Nat} (hB : 2 ≤ B) (hB' : B ≤ 18446744073709551616) (hl : v < B ^ 1000000) : Lim (digs B v) := ⟨fun x hx => Nat.lt_of_lt_of_le (digs_lt hB v x hx) hB', digs_length_of_lt hB hl⟩
theorem Lim.trim (h : Lim l) : ∃ n, n ≤ l.length ∧ Go.Proofs.YtendnkpiidhogaaGreat.digs 18446744073709551616 (val 18446744073709551616 l) = l.take n := by
  refine ⟨(Go.Proofs.YtendnkpiidhogaaGreat.digs 18446744073709551616 (val 18446744073709551616 l)).length, digs_length_le (by omega) h.1, ?_⟩
  obtain ⟨n, hn, hz, h0⟩ : ∃ n, n ≤ l.length ∧ (∀ x ∈ l.drop n, x = 0) ∧ (0 < n → dg l (n - 1) ≠ 0) := by
    have : ∀ k, k ≤ l.length → (∀ x ∈ l.drop k, x = 0) → ∃ n, n ≤ l.length ∧ (∀ x ∈ l.drop n, x = 0) ∧ (0 < n → dg l (n - 1) ≠ 0) := by
      intro k
      induction k with
      | zero => intro _ hz; exact ⟨0, by omega, hz, by omega⟩
      | succ k ih =>
        intro hk hz
        by_cases h : dg l k = 0
        · refine ih (by omega) fun x hx => ?_
          rw [List.drop_eq_getElem_cons (by omega : k < l.length)] at hx
          rcases List.mem_cons.1 hx with rfl | hx
          · rwa [getD_eq (by omega)] at h
          · exact hz x hx
        · exact ⟨k + 1, hk, hz, fun _ => by simpa using h⟩
    exact this l.length (Nat.le_refl _) (by simp)
  have h1 := take_digs (B := 18446744073709551616) (by omega) h.1 hn hz h0
  rw [← h1, List.length_take, Nat.min_eq_left hn]
theorem RN.keep (h : RN w P A c l) (hk : ∀ p : Addr, P p.block → w'.cell? p = w.cell? p) : RN w' P A c l := ⟨h.1.keep hk, h.2⟩
theorem RN.mono (h : RN w P A c l) (hp : ∀ b, P b → P' b) : RN w P' A c l := ⟨h.1.mono hp, h.2⟩
theorem RN.below {B : Nat} (h : RN w P A c l) (hb : Below B w w') (hB : ∀ b, P b → b < B) : RN w' P A c l := ⟨h.1.below hb hB, h.2⟩
theorem RN.drewN (h : RN w P A c l) (n : Nat) : RN (w.drewN n) P A c l := h
theorem RN.cap (h : RN w P A c l) : l.length ≤ c ∧ c ≤ 9223372036854775807 ∧ l.length ≤ 1000000 := ⟨h.1.1, h.1.2.1, h.2.2⟩
theorem RN.nil_ (w : World) (P : Nat → Prop) : RN w P none 0 [] := ⟨RS.nil_ _ _ _, Lim.nil_⟩
theorem RN.take (h : RN w P A c l) (n : Nat) : RN w P A c (l.take n) := by
 by_cases hn : n ≤ l.length
 · refine ⟨?_, h.2.take n⟩
   have := h.1.pre hn
   rw [Nat.mul_one, nts_take] at this
   rwa [List.length_take, Nat.min_eq_left hn]
 · rw [List.take_of_length_le (by omega)]; exact h
theorem RN.at_ (h : RN w P A c l) {i : Nat} (hi' : i < l.length) : ∃ ad, A = some ad ∧ P ad.block ∧ w.cell? (ad.add i) = some (.int .u64 (dg l i : Int)) := by
 obtain ⟨⟨h1, h2, h3, h4⟩, h5⟩ := h
 obtain ⟨ad, rfl, hb, hc⟩ := h4 (by omega)
 exact ⟨ad, rfl, hb, hc _ _ (nts_get hi')⟩
theorem RN.cells {ad : Addr} (h : RN w P (some ad) c l) : ∀ i, i < l.length → w.cell? (ad.add i) = some (.int .u64 (dg l i : Int)) := by
 intro i hi
 obtain ⟨ad', e, _, hc⟩ := h.at_ hi
 cases e
 exact hc
theorem RN.lt (h : RN w P A c l) (i : Nat) : (dg l i : Int) < 18446744073709551616 := by have := h.2.dgLt i; omega
theorem Blk.cell (h : Blk w g l) {i : Nat} (hi : i < l.length) : w.cell? ⟨g, i, none⟩ = some (.int .u64 (dg l i : Int)) := by
 rw [blk_cell h i, List.getElem?_toArray, nts_get hi]
theorem Blk.free (h : Blk w g l) (i : Nat) : w.frozen? ⟨g, i, none⟩ = false := blk_free h i
theorem Blk.lt (h : Blk w g l) : g < w.heap.size := blk_lt h
theorem Blk.set (h : Blk w g l) (i : Nat) (x : Nat) : Blk (w.setCell ⟨g, i, none⟩ (.int .u64 (x : Int))) g (l.set i x) := by
 unfold Blk at *
 simp [World.setCell, Array.getElem?_modify, h, nts]
theorem Blk.below {B : Nat} (h : Blk w g l) (hb : Below B w w') (hg : g < B) : Blk w' g l := (hb.block g hg).trans h
theorem Blk.drewN (h : Blk w g l) (n : Nat) : Blk (w.drewN n) g l := h
theorem Blk.other (h : Blk w g l) {p : Addr} (hp : g ≠ p.block) (v : Value) : Blk (w.setCell p v) g l := (Below.heap_setCell w p v g hp).trans h
theorem Blk.alloc (h : Blk w g l) (o : Obj) : Blk (w.alloc o) g l := (Below.heap_alloc w o g (blk_lt h)).trans h
theorem Blk.made (w : World) (n : Nat) : Blk (w.alloc (.cells (madeCells #[.int .u64 0] n) 139)) w.heap.size (List.replicate n 0) := by
 unfold Blk
 rw [heap_alloc_new]
 congr 1
 congr 1
 apply Array.ext_getElem?
 intro i
 by_cases hi : i < n
 · have hs : i < (madeCells #[Value.int .u64 0] n).size := by rw [size_madeCells]; simpa using hi
   rw [Array.getElem?_eq_getElem hs]
   simp [madeCells, nts, hi, Nat.mod_one]
 · rw [Array.getElem?_eq_none (by rw [size_madeCells]; omega), Array.getElem?_eq_none (by simp [nts]; omega)]
theorem OB.rn (h : OB w base A c l) : RN w (In base w.heap.size) A c l := by
 obtain ⟨h1, h2, h3, h4⟩ := h
 refine ⟨⟨h2, h3, by simp [nts], fun hn => ?_⟩, h1⟩
 obtain ⟨g, cur, rfl, hg, hh, hc⟩ := h4 hn
 refine ⟨_, rfl, ⟨hg, blk_lt hh⟩, fun j u hu => ?_⟩
 have := blk_cell hh j
 rw [hc j u hu] at this
 rw [add_blk]
 exact this
theorem OB.nil_ (w : World) (base : Nat) : OB w base none 0 [] := ⟨Lim.nil_, Nat.le_refl _, by unfold maxLen; omega, fun h => absurd h (by simp)⟩
theorem OB.below {B : Nat} (h : OB w base A c l) (hb : Below B w w') (hB : w.heap.size ≤ B) : OB w' base A c l := by
 obtain ⟨h1, h2, h3, h4⟩ := h
 refine ⟨h1, h2, h3, fun hn => ?_⟩
 obtain ⟨g, cur, rfl, hg, hh, hc⟩ := h4 hn
 exact ⟨g, cur, rfl, hg, (hb.block g (Nat.lt_of_lt_of_le (blk_lt hh) hB)).trans hh, hc⟩
theorem OB.drewN (h : OB w base A c l) (n : Nat) : OB (w.drewN n) base A c l := h
theorem OB.mono {base' : Nat} (h : OB w base A c l) (hb : base' ≤ base) : OB w base' A c l := by
 obtain ⟨h1, h2, h3, h4⟩ := h
 refine ⟨h1, h2, h3, fun hn => ?_⟩
 obtain ⟨g, cur, e, hg, hh, hc⟩ := h4 hn
 exact ⟨g, cur, e, by omega, hh, hc⟩
theorem OB.cap (h : OB w base A c l) : l.length ≤ c ∧ c ≤ 9223372036854775807 ∧ l.length ≤ 1000000 := ⟨h.2.1, h.2.2.1, h.1.2⟩
theorem OB.take (h : OB w base A c l) (n : Nat) : OB w base A c (l.take n) := by
 obtain ⟨h1, h2, h3, h4⟩ := h
 refine ⟨h1.take n, by rw [List.length_take]; omega, h3, fun hn => ?_⟩
 obtain ⟨g, cur, e, hg, hh, hc⟩ := h4 (by rw [List.length_take] at hn; omega)
 refine ⟨g, cur, e, hg, hh, fun j u hu => hc j u ?_⟩
 rw [← nts_take, List.getElem?_take] at hu
 split at hu
 · exact hu
 · cases hu
theorem OB.of_blk (h : Blk w g l) (hg : base ≤ g) (hl : Lim l) {c : Nat} (hc : l.length ≤ c) (hc' : c ≤ maxLen) : OB w base (some ⟨g, 0, none⟩) c l :=
 ⟨hl, hc, hc', fun _ => ⟨g, _, rfl, hg, h, fun j u hu => by rw [List.getElem?_toArray]; exact hu⟩⟩
theorem OB.of_own (h : w.ownsRow base 139 1 (.slice A l.length c) l.length (nts l)) (hl : Lim l) : OB w base A c l := by
 obtain ⟨h0, ⟨e1, e2⟩ | ⟨g, cap, cur, e1, hg, hh, h5, h6, h7, h8⟩⟩ := h
 · injection e1 with e1 e3 e4
   have : l = [] := List.eq_nil_of_length_eq_zero e2
   subst e1 e4 this
   exact OB.nil_ w base
 · injection e1 with e1 e2 e3
   subst e1 e3
   refine ⟨hl, h5, h6, fun _ => ⟨g, cur, rfl, hg, hh, fun j u hu => ?_⟩⟩
   rw [← h8, List.getElem?_take] at hu
   split at hu
   · rwa [Array.getElem?_toList] at hu
   · cases hu
end

theorem info64 : (Tryz.prog.info? 139).map (fun i => (i.zero, i.size, i.bytes)) = some (some (.int .u64 0), 1, 8) := by kernel_rfl
end Go.Proofs.YtendnkpiidhogaaGreat

namespace Go.Proofs.YtendnkpiidhogaaGreat
open Go.RowKit

def CutAt (l : List Nat) (k : Nat) : Prop := k ≤ l.length ∧ ∀ x ∈ l.drop k, x = 0
theorem CutAt.zero (l : List Nat) : CutAt l l.length := ⟨Nat.le_refl _, by simp⟩
theorem CutAt.step {l : List Nat} {k : Nat} (h : CutAt l (k + 1)) (h0 : dg l k = 0) : CutAt l k := by
 obtain ⟨h1, h2⟩ := h
 refine ⟨by omega, fun x hx => ?_⟩
 rw [List.drop_eq_getElem_cons (by omega : k < l.length)] at hx
 rcases List.mem_cons.1 hx with rfl | hx
 · rwa [getD_eq (by omega)] at h0
 · exact h2 x hx
theorem CutAt.fin {B : Nat} (hB : 2 ≤ B) {l : List Nat} (hl : ∀ x ∈ l, x < B) {k : Nat} (h : CutAt l k) (h0 : 0 < k → dg l (k - 1) ≠ 0) : l.take k = digs B (val B l) :=
 take_digs hB hl h.1 h.2 h0
theorem CutAt.len {B : Nat} (hB : 2 ≤ B) {l : List Nat} (hl : ∀ x ∈ l, x < B) {k : Nat} (h : CutAt l k) (h0 : 0 < k → dg l (k - 1) ≠ 0) : (digs B (val B l)).length = k := by
 rw [← h.fin hB hl h0, List.length_take, Nat.min_eq_left h.1]

set_option maxHeartbeats 400000 in
theorem trim_any (P : Nat → Prop) (A : Option Addr) (c : Nat) (l : List Nat) (w : World) (h : RN w P A c l) :
 Calls Tryz.prog 134 #[.slice A l.length c] w fun e w' => e = .returned (.slice A (digs 18446744073709551616 (val 18446744073709551616 l)).length c) ∧ w = w' := by
 obtain ⟨h1, h2, h3⟩ := h.cap
 go_enter Tryz.func134, Tryz.ntmps134
 go_wp2
 go_loop [3] (fun n => ∃ k : Nat, CutAt l k ∧ n = .int .i64 k) (fun n => (intOf n).toNat)
 case atStart => exact ⟨l.length, CutAt.zero l, rfl⟩
 case round =>
  obtain ⟨k, hk, rfl⟩ := hrel
  rcases k with _ | k
  · have hl := Lib.hid (hk.len (B := 18446744073709551616) (by omega) h.2.1 (by omega))
    go_wp2
    go_ret
    rw [hl.out]
    exact ⟨rfl, rfl⟩
  · obtain ⟨ad, rfl, _, hc⟩ := h.at_ (i := k) (by have := hk.1; omega)
    have hkl := hk.1
    by_cases h0 : dg l k = 0
    · rw [h0] at hc
      have hk' := hk.step h0
      clear hk h0
      go_wp2
      go_round
      case rel => exact ⟨k, hk', by go_num⟩
      case measure => simp [intOf]
    · have hl := Lib.hid (hk.len (B := 18446744073709551616) (by omega) h.2.1 (fun _ => h0))
      have h0' : (((dg l k : Nat) : Int) == 0) = false := eqB (by omega)
      clear h0
      go_wp2
      go_ret
      rw [hl.out]
      exact ⟨rfl, rfl⟩

theorem RN.trim {w : World} {P : Nat → Prop} {A : Option Addr} {c : Nat} {l : List Nat} (h : RN w P A c l) : RN w P A c (digs 18446744073709551616 (val 18446744073709551616 l)) := by
 obtain ⟨n, _, e⟩ := h.2.trim
 rw [e]
 exact h.take n
theorem OB.trim {w : World} {base : Nat} {A : Option Addr} {c : Nat} {l : List Nat} (h : OB w base A c l) : OB w base A c (digs 18446744073709551616 (val 18446744073709551616 l)) := by
 obtain ⟨n, _, e⟩ := h.1.trim
 rw [e]
 exact h.take n

def Dig (l : List Nat) : Prop := ∀ x ∈ l, x < 4294967296
set_option maxHeartbeats 400000 in
theorem made_any (P : Nat → Prop) (A : Option Addr) (c : Nat) (l : List Nat) (w : World) (h : RN w P A c l) :
 Calls Tryz.prog 205 #[.slice A l.length c] w fun e w' => ∃ A' c', e = .returned (.slice A' (digs 18446744073709551616 (val 18446744073709551616 l)).length c') ∧ OB w' w.heap.size A' c' (digs 18446744073709551616 (val 18446744073709551616 l)) ∧ Below w.heap.size w w' := by
 obtain ⟨i0, hi, hz0, hz1, hz2⟩ := info_parts info64
 have ht := h.trim
 obtain ⟨n, _, e⟩ := h.2.trim
 have hcap := ht.cap
 obtain ⟨d, hd⟩ : ∃ d, digs 18446744073709551616 (val 18446744073709551616 l) = d := ⟨_, rfl⟩
 have Htr := Lib.hid (trim_any P A c l w h)
 rw [hd] at ht hcap Htr ⊢
 obtain ⟨h1, h2, h3⟩ := hcap
 clear hd e
 go_enter Tryz.func205, Tryz.ntmps205
 go_wp2_with fail
 refine Htr.out.mono ?_
 rintro e w1 ⟨rfl, rfl⟩
 go_wp2_with (at_builtin; refine wpList_append_rs _ rfl _ _ 106 rfl w.heap.size 139 i0 (.int .u64 0) 1 8 Tryz.underlying106 hi hz0 hz1 hz2 rfl (by decide) _ 0 [] rfl (World.ownsRow_nil _ _ _ _) P A d.length c (nts d) rfl ht.1 (oneCell_nts d) d.length (by omega) (by unfold maxLen; omega) (by omega) (Nat.le_refl _) ?_)
 intro A' c' w1 hown hgrow hblk
 go_wp2
 go_ret
 exact ⟨A', c', rfl, OB.of_own (by simpa using hown) ht.2, (Below.refl _ w).grown hgrow (Nat.le_refl _) (by intro k hk; simp [Value.ownBlock] at hk)⟩

set_option maxHeartbeats 400000 in
theorem norm_any (P : Nat → Prop) (A : Option Addr) (c : Nat) (l : List Nat) (w : World) (h : RN w P A c l) :
 Calls Tryz.prog 173 #[.slice A l.length c] w fun e w' => ∃ A' c', e = .returned (.slice A' (digs 18446744073709551616 (val 18446744073709551616 l)).length c') ∧ OB w' w.heap.size A' c' (digs 18446744073709551616 (val 18446744073709551616 l)) ∧ Below w.heap.size w w' := by
 go_enter Tryz.func173, Tryz.ntmps173
 go_wp2_with fail
 refine (made_any P A c l w h).mono ?_
 rintro e w1 ⟨A', c', rfl, hO, hB⟩
 go_wp2
 go_ret
 exact ⟨A', c', rfl, hO, hB⟩

set_option maxHeartbeats 400000 in
theorem of_any (x : Nat) (w : World) (hx : x < 18446744073709551616) :
 Calls Tryz.prog 168 #[.int .u64 (x : Int)] w fun e w' => ∃ A' c', e = .returned (.slice A' (digs 18446744073709551616 x).length c') ∧ OB w' w.heap.size A' c' (digs 18446744073709551616 x) ∧ Below w.heap.size w w' := by
 have hv : val 18446744073709551616 [x] = x := by simp
 have hm := fun P A c w => made_any P A c [x] w
 rw [hv] at hm
 have Hm := Lib.hid hm
 clear hm hv
 go_enter Tryz.func168, Tryz.ntmps168
 go_wp2_with fail
 refine (Hm.out (In w.heap.size (w.heap.size + 1)) _ _ _ ⟨RS.fresh #[.int .u64 (x : Int)] 139 1 1 rfl (by unfold maxLen; omega) ⟨Nat.le_refl _, by omega⟩, by simpa [Lim] using hx⟩).mono ?_
 rintro e w1 ⟨A', c', rfl, hO, hB⟩
 go_wp2
 go_ret
 exact ⟨A', c', rfl, hO.mono (by simp), ((Below.refl _ w).alloc (Nat.le_refl _) _).trans (hB.mono (by simp))⟩
end Go.Proofs.YtendnkpiidhogaaGreat

namespace Go.Proofs.YtendnkpiidhogaaGreat
open Go.RowKit

def cmpV (x y : Nat) : Int := if x < y then -1 else if x = y then 0 else 1
theorem cmpV_lt {x y : Nat} (h : x < y) : cmpV x y = -1 := by simp [cmpV, h]
theorem cmpV_gt {x y : Nat} (h : y < x) : cmpV x y = 1 := by simp [cmpV, show ¬ x < y by omega, show ¬ x = y by omega]
theorem cmpV_eq (x : Nat) : cmpV x x = 0 := by simp [cmpV]
theorem cmpV_cases (x y : Nat) : (x < y ∧ cmpV x y = -1) ∨ (x = y ∧ cmpV x y = 0) ∨ (y < x ∧ cmpV x y = 1) := by
 rcases Nat.lt_trichotomy x y with h | h | h
 · exact .inl ⟨h, cmpV_lt h⟩
 · exact .inr (.inl ⟨h, by rw [h]; exact cmpV_eq y⟩)
 · exact .inr (.inr ⟨h, cmpV_gt h⟩)

def CmpAt (l m : List Nat) (k : Nat) (i : Int) : Prop := k ≤ l.length ∧ l.drop k = m.drop k ∧ ((k = 0 ∧ i = -1) ∨ ∃ j : Nat, k = j + 1 ∧ i = (j : Int))
theorem CmpAt.start {l m : List Nat} (h : l.length = m.length) : CmpAt l m l.length ((l.length : Int) - 1) := by
 refine ⟨Nat.le_refl _, by rw [List.drop_length, h, List.drop_length], ?_⟩
 rcases hl : l.length with _ | n
 · exact .inl ⟨rfl, by simp⟩
 · exact .inr ⟨n, rfl, by omega⟩
theorem CmpAt.step {l m : List Nat} {j : Nat} {i : Int} (h : CmpAt l m (j + 1) i) (hl : l.length = m.length) (he : dg l j = dg m j) : CmpAt l m j ((j : Int) - 1) := by
 obtain ⟨h1, h2, _⟩ := h
 refine ⟨by omega, ?_, ?_⟩
 · rw [List.drop_eq_getElem_cons (by omega : j < l.length), List.drop_eq_getElem_cons (by omega : j < m.length), h2]
   rw [dg, dg, getD_eq' (by omega), getD_eq' (by omega)] at he
   rw [he]
 · rcases j with _ | j
   · exact .inl ⟨rfl, by simp⟩
   · exact .inr ⟨j, rfl, by omega⟩
theorem CmpAt.done {l m : List Nat} {i : Int} (h : CmpAt l m 0 i) : l = m := by simpa using h.2.1
theorem CmpAt.lt {B : Nat} {l m : List Nat} {j : Nat} {i : Int} (h : CmpAt l m (j + 1) i) (hl : l.length = m.length) (hB : ∀ x ∈ l, x < B) (hd : dg l j < dg m j) : val B l < val B m := by
 obtain ⟨h1, h2, _⟩ := h
 refine val_lt_of hB hl (i := j) (by omega) h2 ?_
 rwa [dg, dg, getD_eq' (by omega), getD_eq' (by omega)] at hd
theorem CmpAt.gt {B : Nat} {l m : List Nat} {j : Nat} {i : Int} (h : CmpAt l m (j + 1) i) (hl : l.length = m.length) (hB : ∀ x ∈ m, x < B) (hd : dg m j < dg l j) : val B m < val B l := by
 obtain ⟨h1, h2, _⟩ := h
 refine val_lt_of hB hl.symm (i := j) (by omega) h2.symm ?_
 rwa [dg, dg, getD_eq' (by omega), getD_eq' (by omega)] at hd

set_option maxHeartbeats 1000000 in
theorem cmp_any (P P' : Nat → Prop) (A A' : Option Addr) (c c' : Nat) (a b : List Nat) (w : World) (h : RN w P A c a) (h' : RN w P' A' c' b) :
 Calls Tryz.prog 128 #[.slice A a.length c, .slice A' b.length c'] w fun e w' => e = .returned (.int .i64 (cmpV (val 18446744073709551616 a) (val 18446744073709551616 b))) ∧ ∃ n, w' = w.drewN n := by
 have ta := Lib.hid (trim_any P A c a w h)
 have tb := Lib.hid (trim_any P' A' c' b w h')
 replace h := h.trim
 replace h' := h'.trim
 generalize val 18446744073709551616 a = x at *
 generalize val 18446744073709551616 b = y at *
 have hx := val_digs (B := 18446744073709551616) (by omega) x
 have hy := val_digs (B := 18446744073709551616) (by omega) y
 have bx := digs_lt (B := 18446744073709551616) (by omega) x
 have byy := digs_lt (B := 18446744073709551616) (by omega) y
 have hlt := lt_of_digs_length (B := 18446744073709551616) (m := x) (n := y) (by omega)
 have hgt := lt_of_digs_length (B := 18446744073709551616) (m := y) (n := x) (by omega)
 generalize digs 18446744073709551616 x = l at *
 generalize digs 18446744073709551616 y = m at *
 obtain ⟨h1, h2, h3⟩ := h.cap
 obtain ⟨g1, g2, g3⟩ := h'.cap
 have Hx := Lib.hid hx
 have Hy := Lib.hid hy
 clear hx hy
 by_cases hl : l.length = m.length
 · have hs := CmpAt.start hl
   have Hl := Lib.hid hl
   have hl1 : ((l.length : Int) != (m.length : Int)) = false := by simp [hl]
   clear hl hlt hgt
   have Hs := Lib.hid hs
   clear hs
   go_enter Tryz.func128, Tryz.ntmps128
   go_wp2_with fail
   refine ta.out.mono ?_
   rintro e w1 ⟨rfl, rfl⟩
   go_wp2_with fail
   refine tb.out.mono ?_
   rintro e w1 ⟨rfl, rfl⟩
   go_wp2
   go_loopw [5] (fun i wr => ∃ (k n : Nat) (z : Int), CmpAt l m k z ∧ i = .int .i64 z ∧ wr = w.drewN n) (fun i _ => (intOf i + 1).toNat)
   case atStart => exact ⟨l.length, 0, _, Hs.out, rfl, rfl⟩
   case round =>
    obtain ⟨k, n, z, hk, rfl, rfl⟩ := hrel
    obtain ⟨hk1, hk2, ⟨rfl, rfl⟩ | ⟨j, rfl, rfl⟩⟩ := hk
    · have he : l = m := by simpa using hk2
      have hxy : x = y := by rw [← Hx.out, ← Hy.out, he]
      have hc := Lib.hid (show cmpV x y = 0 by rw [hxy]; exact cmpV_eq y)
      clear he hxy hk2
      go_wp2
      go_ret
      rw [hc.out]
      exact ⟨rfl, n, rfl⟩
    · have hlm := Hl.out
      obtain ⟨ad, rfl, _, q1⟩ := h.at_ (i := j) (by omega)
      obtain ⟨ae, rfl, _, q2⟩ := h'.at_ (i := j) (by omega)
      have hj1 : (j : Int) < (l.length : Int) := by omega
      have hj2 : (j : Int) < (m.length : Int) := by omega
      have hkk : CmpAt l m (j + 1) (j : Int) := ⟨hk1, hk2, .inr ⟨j, rfl, rfl⟩⟩
      rcases Nat.lt_trichotomy (dg l j) (dg m j) with hd | hd | hd
      · have hv := hkk.lt hlm bx hd
        rw [Hx.out, Hy.out] at hv
        have hc := Lib.hid (cmpV_lt hv)
        have hd0 : (((dg l j : Nat) : Int) != ((dg m j : Nat) : Int)) = true := neB (by omega)
        have hd1 : decide (dg l j < dg m j) = true := by simpa using hd
        clear hkk hk1 hk2 hlm hd hv
        go_wp2
        go_quiet (fail)
        go_wp2
        go_quiet (fail)
        go_wp2
        go_ret
        rw [hc.out]
        exact ⟨rfl, by first | exact dr3 _ _ _ _ | exact dr1 _ _⟩
      · have hkk' := hkk.step hlm hd
        rw [← hd] at q2
        clear hkk hk1 hk2 hlm hd
        go_wp2
        go_quiet (fail)
        go_wp2
        go_roundw
        case rel => exact ⟨j, _, _, hkk', rfl, by first | rfl | exact drewN_add _ _ _⟩
        case measure => simp [intOf]
      · have hv := hkk.gt hlm byy hd
        rw [Hx.out, Hy.out] at hv
        have hc := Lib.hid (cmpV_gt hv)
        have hd0 : (((dg l j : Nat) : Int) != ((dg m j : Nat) : Int)) = true := neB (by omega)
        have hd1 : decide (dg l j < dg m j) = false := by simp; omega
        clear hkk hk1 hk2 hlm hd hv
        go_wp2
        go_quiet (fail)
        go_wp2
        go_quiet (fail)
        go_wp2
        go_ret
        rw [hc.out]
        exact ⟨rfl, by first | exact dr3 _ _ _ _ | exact dr1 _ _⟩
 · have hl1 : ((l.length : Int) != (m.length : Int)) = true := neB (by omega)
   rcases Nat.lt_or_ge l.length m.length with hd | hd
   · have hc := Lib.hid (cmpV_lt (hlt hd))
     clear hl hlt hgt
     go_enter Tryz.func128, Tryz.ntmps128
     go_wp2_with fail
     refine ta.out.mono ?_
     rintro e w1 ⟨rfl, rfl⟩
     go_wp2_with fail
     refine tb.out.mono ?_
     rintro e w1 ⟨rfl, rfl⟩
     go_wp2
     go_ret
     rw [hc.out]
     exact ⟨rfl, 0, rfl⟩
   · have hc := Lib.hid (cmpV_gt (hgt (by omega)))
     clear hl hlt hgt
     go_enter Tryz.func128, Tryz.ntmps128
     go_wp2_with fail
     refine ta.out.mono ?_
     rintro e w1 ⟨rfl, rfl⟩
     go_wp2_with fail
     refine tb.out.mono ?_
     rintro e w1 ⟨rfl, rfl⟩
     go_wp2
     go_ret
     rw [hc.out]
     exact ⟨rfl, 0, rfl⟩
end Go.Proofs.YtendnkpiidhogaaGreat

namespace Go.Proofs.YtendnkpiidhogaaGreat
open Go.RowKit

theorem add64_at (x y c s c' : Nat) (hc : c ≤ 1) (hs : s < 18446744073709551616) (he : s + 18446744073709551616 * c' = x + y + c) (w : World) :
 (callFunc 164 #[.int .u64 (x : Int), .int .u64 (y : Int), .int .u64 (c : Int)]).run Tryz.prog w = .ok (.value (.tuple #[.int .u64 (s : Int), .int .u64 (c' : Int)])) w := by
 rw [Tryz.add64_run x y c hc w, show (x + y + c) % 18446744073709551616 = s by omega, show (x + y + c) / 18446744073709551616 = c' by omega]
theorem sub64_at (x y c s c' : Nat) (hc : c ≤ 1) (hx : x < 18446744073709551616) (hy : y < 18446744073709551616) (hs : s < 18446744073709551616) (he : s + y + c = x + 18446744073709551616 * c') (hc' : c' ≤ 1) (w : World) :
 (callFunc 212 #[.int .u64 (x : Int), .int .u64 (y : Int), .int .u64 (c : Int)]).run Tryz.prog w = .ok (.value (.tuple #[.int .u64 (s : Int), .int .u64 (c' : Int)])) w := by
 rw [Tryz.sub64_run x y c hc w, show (x + 18446744073709551616 - y - c) % 18446744073709551616 = s by omega, show (if x < y + c then 1 else 0 : Nat) = c' by split <;> omega]
theorem carry_of (x y c : Nat) (hx : x < 18446744073709551616) (hy : y < 18446744073709551616) (hc : c ≤ 1) : ∃ s c', s < 18446744073709551616 ∧ c' ≤ 1 ∧ s + 18446744073709551616 * c' = x + y + c :=
 ⟨(x + y + c) % 18446744073709551616, (x + y + c) / 18446744073709551616, by omega, by omega, by omega⟩
theorem borrow_of (x y c : Nat) (hx : x < 18446744073709551616) (hy : y < 18446744073709551616) (hc : c ≤ 1) : ∃ s c', s < 18446744073709551616 ∧ c' ≤ 1 ∧ s + y + c = x + 18446744073709551616 * c' := by
 by_cases h : y + c ≤ x
 · exact ⟨x - y - c, 0, by omega, by omega, by omega⟩
 · exact ⟨x + 18446744073709551616 - y - c, 1, by omega, by omega, by omega⟩
theorem dg_none {l : List Nat} {k : Nat} (h : l.length ≤ k) : dg l k = 0 := by
 rw [dg, List.getD_eq_getElem?_getD, List.getElem?_eq_none h]; rfl


set_option maxRecDepth 100000 in
set_option maxHeartbeats 1000000 in
theorem sub_yes (P P' : Nat → Prop) (A A' : Option Addr) (c c' : Nat) (a b : List Nat) (w : World) (h : RN w P A c a) (h' : RN w P' A' c' b) (hP : ∀ b, P b → b < w.heap.size) (hP' : ∀ b, P' b → b < w.heap.size) (hl : a.length < 100000)
 (hge : val 18446744073709551616 b ≤ val 18446744073709551616 a) :
 Calls Tryz.prog 170 #[.slice A a.length c, .slice A' b.length c'] w fun e w' => ∃ A1 c1, e = .returned (.tuple #[.slice A1 (digs 18446744073709551616 (val 18446744073709551616 a - val 18446744073709551616 b)).length c1, .bool true]) ∧
  OB w' w.heap.size A1 c1 (digs 18446744073709551616 (val 18446744073709551616 a - val 18446744073709551616 b)) ∧ Below w.heap.size w w' := by
 have ta := Lib.hid (trim_any P A c a w h)
 have tb := Lib.hid (trim_any P' A' c' b w h')
 have tc := cmp_any P P' A A' c c' _ _ w h.trim h'.trim
 rw [val_digs (by omega), val_digs (by omega)] at tc
 have la := digs_length_le (B := 18446744073709551616) (by omega) h.2.1
 have hml := digs_length_mono (B := 18446744073709551616) (by omega) hge
 replace h := h.trim
 replace h' := h'.trim
 generalize val 18446744073709551616 a = x at *
 generalize val 18446744073709551616 b = y at *
 have hx := val_digs (B := 18446744073709551616) (by omega) x
 have hy := val_digs (B := 18446744073709551616) (by omega) y
 generalize digs 18446744073709551616 x = l at *
 generalize digs 18446744073709551616 y = m at *
 have hlen : l.length < 100000 := by omega
 clear la hl
 have hge' : val 18446744073709551616 m ≤ val 18446744073709551616 l := by rw [hx, hy]; exact hge
 have Hv := Lib.hid (show val 18446744073709551616 l - val 18446744073709551616 m = x - y by rw [hx, hy])
 have hcv : 0 ≤ cmpV x y := by rcases cmpV_cases x y with h | h | h <;> omega
 generalize cmpV x y = v at tc hcv
 have Tc := Lib.hid tc
 have Hge := Lib.hid hge'
 clear hx hy tc hge hge'
 obtain ⟨h1, h2, h3⟩ := h.cap
 obtain ⟨g1, g2, g3⟩ := h'.cap
 go_enter Tryz.func170, Tryz.ntmps170
 go_wp2_with fail
 refine ta.out.mono ?_
 rintro e w1 ⟨rfl, rfl⟩
 go_wp2_with fail
 refine tb.out.mono ?_
 rintro e w1 ⟨rfl, rfl⟩
 go_wp2_with fail
 refine Tc.out.mono ?_
 rintro e w1 ⟨rfl, n, rfl⟩
 have hmk := run_make_row' (P := Tryz.prog) 106 139 (.int .u64 0) 8 Tryz.underlying106 info64 rfl .i64 .i64 l.length (by omega) (by omega)
 go_wp2
 go_loopw [7, 23] (fun cv iv wr => ∃ (k cr : Nat) (o : List Nat), iv = .int .i64 (k : Int) ∧ cv = .int .u64 (cr : Int) ∧ k ≤ l.length ∧ cr ≤ 1 ∧ SubAt 18446744073709551616 l m o k cr ∧ Hid (o.length = l.length) ∧ Lim o ∧ Blk wr w.heap.size o ∧ Below w.heap.size w wr) (fun _ iv _ => l.length - (intOf iv).toNat)
 case atStart => exact ⟨0, 0, List.replicate l.length 0, rfl, rfl, by omega, by omega, SubAt.zero _ _ _ _, Lib.hid (by simp), ⟨by simp, by simp; omega⟩, Blk.made (w.drewN n) _, (below_drewN (Below.refl _ w) n).alloc (Nat.le_refl _) _⟩
 case round =>
  obtain ⟨k, cr, o, rfl, rfl, hk, hcr, hA, Ho, hLo, hblk, hB⟩ := hrel
  by_cases hlt : k < l.length
  · obtain ⟨ad, rfl, _, q1⟩ := (h.below hB hP).at_ hlt
    obtain ⟨s, cr', hs, hcr', he⟩ := borrow_of (dg l k) (dg m k) cr (h.2.dgLt k) (h'.2.dgLt k) hcr
    have hok : k < o.length := by have := Ho.out; omega
    have q3 := hblk.cell hok
    have q4 := hblk.free k
    have hA' := hA.step hok he
    have hblk' := hblk.set k s
    have hLo' := hLo.set k s hs
    have hB' := hB.setCell (p := ⟨w.heap.size, k, none⟩) (Nat.le_refl _) (.int .u64 (s : Int))
    have Ho' : Hid ((o.set k s).length = l.length) := Lib.hid (by rw [List.length_set]; exact Ho.out)
    have hl64 := h.2.dgLt k
    have hm64 := h'.2.dgLt k
    by_cases hm : k < m.length
    · obtain ⟨ae, rfl, _, q2⟩ := (h'.below hB hP').at_ hm
      have hsub := fun w => sub64_at (dg l k) (dg m k) cr s cr' hcr hl64 hm64 hs he hcr' w
      clear he hA hblk hLo hB hl64 hm64
      go_wp2
      go_roundw
      case rel => exact ⟨k + 1, cr', o.set k s, by go_num, rfl, by omega, hcr', hA', Ho', hLo', hblk', hB'⟩
      case measure => simp [intOf]; omega
    · have hsub := fun w => sub64_at (dg l k) 0 cr s cr' hcr hl64 (by omega) hs (by rw [dg_none (by omega : m.length ≤ k)] at he; exact he) hcr' w
      simp only [Int.cast_ofNat_Int] at hsub
      clear he hA hblk hLo hB hl64 hm64
      go_wp2
      go_roundw
      case rel => exact ⟨k + 1, cr', o.set k s, by go_num, rfl, by omega, hcr', hA', Ho', hLo', hblk', hB'⟩
      case measure => simp [intOf]; omega
  · obtain rfl : k = l.length := by omega
    have hfin := hA.fin Ho.out hLo.1 rfl hml Hge.out
    rw [Hv.out] at hfin
    have hOB : OB wr w.heap.size (some ⟨w.heap.size, 0, none⟩) l.length o := OB.of_blk hblk (Nat.le_refl _) hLo (by have := Ho.out; omega) (by unfold maxLen; omega)
    have ht := trim_any _ _ _ _ _ hOB.rn
    have hOB' := hOB.trim
    rw [hfin, Ho.out] at ht
    rw [hfin] at hOB'
    have Ht := Lib.hid ht
    clear hA hblk hLo ht hfin hOB
    go_wp2_with fail
    refine Ht.out.mono ?_
    rintro e w1 ⟨rfl, rfl⟩
    go_wp2
    go_ret2
    exact ⟨_, _, rfl, hOB', hB⟩
end Go.Proofs.YtendnkpiidhogaaGreat

namespace Go.Proofs.YtendnkpiidhogaaGreat
open Go.RowKit

theorem mul64_at (x y hi lo : Nat) (hx : x < 18446744073709551616) (hy : y < 18446744073709551616) (hl : lo < 18446744073709551616) (he : lo + 18446744073709551616 * hi = x * y) (w : World) :
 Calls Tryz.prog 163 #[.int .u64 (x : Int), .int .u64 (y : Int)] w fun e w' => e = .returned (.tuple #[.int .u64 (hi : Int), .int .u64 (lo : Int)]) ∧ w = w' :=
 (Tryz.bits_Mul64 x y hx hy w).mono fun e w' ⟨h1, h2⟩ => by
  rw [← he, show (lo + 18446744073709551616 * hi) / 18446744073709551616 = hi by omega, show (lo + 18446744073709551616 * hi) % 18446744073709551616 = lo by omega] at h1
  exact ⟨h1, h2.symm⟩
theorem mul_round (x y u c : Nat) (hx : x < 18446744073709551616) (hy : y < 18446744073709551616) (hu : u < 18446744073709551616) (hc : c < 18446744073709551616) :
    ∃ hi lo s1 c1 s2 c2 : Nat, lo < 18446744073709551616 ∧ lo + 18446744073709551616 * hi = x * y ∧ s1 < 18446744073709551616 ∧ s1 + 18446744073709551616 * c1 = lo + u + 0 ∧ s2 < 18446744073709551616 ∧ s2 + 18446744073709551616 * c2 = s1 + c + 0 ∧
      c1 ≤ 1 ∧ c2 ≤ 1 ∧ hi + c1 < 18446744073709551616 ∧ hi + c1 + c2 < 18446744073709551616 ∧ s2 + 18446744073709551616 * (hi + c1 + c2) = x * y + u + c := by
  have hb := mul_bound hx hy hu hc
  refine ⟨x * y / 18446744073709551616, x * y % 18446744073709551616, (x * y % 18446744073709551616 + u) % 18446744073709551616, (x * y % 18446744073709551616 + u) / 18446744073709551616,
    ((x * y % 18446744073709551616 + u) % 18446744073709551616 + c) % 18446744073709551616, ((x * y % 18446744073709551616 + u) % 18446744073709551616 + c) / 18446744073709551616, ?_⟩
  generalize x * y = p at *
  omega

set_option maxRecDepth 100000 in
set_option maxHeartbeats 2000000 in
theorem mul_any (P P' : Nat → Prop) (A A' : Option Addr) (c c' : Nat) (a b : List Nat) (w : World) (h : RN w P A c a) (h' : RN w P' A' c' b) (hP : ∀ b, P b → b < w.heap.size) (hP' : ∀ b, P' b → b < w.heap.size) (hl : a.length < 100000) (hl' : b.length < 100000) :
 Calls Tryz.prog 129 #[.slice A a.length c, .slice A' b.length c'] w fun e w' => ∃ A1 c1, e = .returned (.slice A1 (digs 18446744073709551616 (val 18446744073709551616 a * val 18446744073709551616 b)).length c1) ∧
  OB w' w.heap.size A1 c1 (digs 18446744073709551616 (val 18446744073709551616 a * val 18446744073709551616 b)) ∧ Below w.heap.size w w' := by
 have ta := Lib.hid (trim_any P A c a w h)
 have tb := Lib.hid (trim_any P' A' c' b w h')
 have la := digs_length_le (B := 18446744073709551616) (by omega) h.2.1
 have lb := digs_length_le (B := 18446744073709551616) (by omega) h'.2.1
 replace h := h.trim
 replace h' := h'.trim
 generalize val 18446744073709551616 a = x at *
 generalize val 18446744073709551616 b = y at *
 have hx := val_digs (B := 18446744073709551616) (by omega) x
 have hy := val_digs (B := 18446744073709551616) (by omega) y
 generalize digs 18446744073709551616 x = l at *
 generalize digs 18446744073709551616 y = m at *
 have la' : l.length < 100000 := by omega
 have lb' : m.length < 100000 := by omega
 clear la lb hl hl'
 have Hx := Lib.hid hx
 have Hy := Lib.hid hy
 clear hx hy
 obtain ⟨h1, h2, h3⟩ := h.cap
 obtain ⟨g1, g2, g3⟩ := h'.cap
 have hmk := run_make_row' (P := Tryz.prog) 106 139 (.int .u64 0) 8 Tryz.underlying106 info64 rfl .i64 .i64 (l.length + m.length) (by omega) (by omega)
 simp only [Int.natCast_add] at hmk
 go_enter Tryz.func129, Tryz.ntmps129
 go_wp2_with fail
 refine ta.out.mono ?_
 rintro e w1 ⟨rfl, rfl⟩
 go_wp2_with fail
 refine tb.out.mono ?_
 rintro e w1 ⟨rfl, rfl⟩
 go_wp2
 clear ta tb
 go_loopw [26] (fun iv wr => ∃ (i : Nat) (o : List Nat), iv = .int .i64 (i : Int) ∧ i ≤ l.length ∧ RowAt 18446744073709551616 l m o i ∧ Lim o ∧ Blk wr w.heap.size o ∧ Below w.heap.size w wr) (fun iv _ => l.length - (intOf iv).toNat)
 case atStart => exact ⟨0, List.replicate (l.length + m.length) 0, rfl, by omega, RowAt.zero _ _ _, ⟨by simp, by simp; omega⟩, Blk.made w _, (Below.refl _ w).alloc (Nat.le_refl _) _⟩
 case round =>
  obtain ⟨i, o0, rfl, hi, hR, hLo, hblk, hB⟩ := hrel
  obtain ⟨wo, rfl⟩ : ∃ wo, wo = wr := ⟨_, rfl⟩
  by_cases hlt : i < l.length
  · obtain ⟨ad, rfl, _, q1⟩ := (h.below hB hP).at_ hlt
    have hxi := h.2.dgLt i
    go_wp2
    go_loopw [8, 33] (fun cv jv wr => ∃ (j cr : Nat) (o : List Nat), jv = .int .i64 (j : Int) ∧ cv = .int .u64 (cr : Int) ∧ j ≤ m.length ∧ cr < 18446744073709551616 ∧ MulAt 18446744073709551616 o0 m (dg l i) i o j cr ∧ Lim o ∧ Blk wr w.heap.size o ∧ Below w.heap.size w wr) (fun _ jv _ => m.length - (intOf jv).toNat)
    case atStart => exact ⟨0, 0, o0, rfl, rfl, by omega, by omega, MulAt.zero _ _ _ _ _, hLo, hblk, hB⟩
    case round =>
     clear q1 hB hblk hLo
     obtain ⟨j, cr, o, rfl, rfl, hj, hcr, hM, hLo, hblk, hB⟩ := hrel
     have hol : o.length = l.length + m.length := hM.1.trans hR.1
     by_cases hjt : j < m.length
     · obtain ⟨ae, rfl, _, q2⟩ := (h'.below hB hP').at_ hjt
       have hok : i + j < o.length := by omega
       have q3 := hblk.cell hok
       have q4 := hblk.free (i + j)
       obtain ⟨hi', lo, s1, c1, s2, c2, b1, b2, b3, b4, b5, b6, b7, b8, b9, b10, he⟩ := mul_round (dg l i) (dg m j) (dg o (i + j)) cr hxi (h'.2.dgLt j) (hLo.dgLt _) hcr
       have hmul := Lib.hid (fun w => mul64_at (dg l i) (dg m j) hi' lo hxi (h'.2.dgLt j) b1 b2 w)
       have hadd1 := fun w => add64_at lo (dg o (i + j)) 0 s1 c1 (by omega) b3 b4 w
       have hadd2 := fun w => add64_at s1 cr 0 s2 c2 (by omega) b5 b6 w
       simp only [Int.cast_ofNat_Int] at hadd1 hadd2
       have hM' := hM.step hok he
       have hblk' := hblk.set (i + j) s2
       have hLo' := hLo.set (i + j) s2 b5
       have hB' := hB.setCell (p := ⟨w.heap.size, i + j, none⟩) (Nat.le_refl _) (.int .u64 (s2 : Int))
       have k1 : (i : Int) + (j : Int) < (l.length : Int) + (m.length : Int) := by omega
       clear he b2 b4 b6 hM hblk hLo hB hok hol
       go_wp2_with fail
       refine (hmul.out _).mono ?_
       rintro e w1 ⟨rfl, rfl⟩
       go_wp2
       go_roundw
       case rel => exact ⟨j + 1, hi' + c1 + c2, o.set (i + j) s2, by go_num, by go_num, by omega, b10, hM', hLo', hblk', hB'⟩
       case measure => simp [intOf]; omega
     · obtain rfl : j = m.length := by omega
       have hR' := hR.step hlt hM
       have q3 := hblk.cell (i := i + m.length) (by omega)
       have q4 := hblk.free (i + m.length)
       have hblk' := hblk.set (i + m.length) cr
       have hLo' := hLo.set (i + m.length) cr hcr
       have hB' := hB.setCell (p := ⟨w.heap.size, i + m.length, none⟩) (Nat.le_refl _) (.int .u64 (cr : Int))
       have k1 : (i : Int) + (m.length : Int) < (l.length : Int) + (m.length : Int) := by omega
       clear hM hblk hLo hB hol
       go_wp2
       go_roundw
       case rel => exact ⟨i + 1, o.set (i + m.length) cr, by go_num, by omega, hR', hLo', hblk', hB'⟩
       case measure => simp [intOf]; omega
  · obtain rfl : i = l.length := by omega
    have hfin := hR.fin
    rw [Hx.out, Hy.out] at hfin
    have hol := hR.1
    have hOB : OB wo w.heap.size (some ⟨w.heap.size, 0, none⟩) (l.length + m.length) o0 := OB.of_blk hblk (Nat.le_refl _) hLo (by omega) (by unfold maxLen; omega)
    have ht := trim_any _ _ _ _ _ hOB.rn
    have hOB' := hOB.trim
    rw [hfin, hol] at ht
    rw [hfin] at hOB'
    have Ht := Lib.hid ht
    clear hblk hLo ht hfin hOB hR hol
    go_wp2_with fail
    refine Ht.out.mono ?_
    rintro e w1 ⟨rfl, rfl⟩
    go_wp2
    go_ret
    exact ⟨_, _, rfl, hOB', hB⟩
end Go.Proofs.YtendnkpiidhogaaGreat

namespace Go.Proofs.YtendnkpiidhogaaGreat
open Go.RowKit

theorem Dig.set {l : List Nat} (h : Dig l) (i x : Nat) (hx : x < 4294967296) : Dig (l.set i x) := set_lt h hx
theorem Dig.dgLt {l : List Nat} (h : Dig l) (i : Nat) : dg l i < 4294967296 := getD_lt (by omega) h i
theorem Dig.digs (x : Nat) : Dig (Go.Proofs.YtendnkpiidhogaaGreat.digs 4294967296 x) := digs_lt (by omega) x

def FromAt (l o : List Nat) (i : Nat) : Prop := o.length = 2 * l.length ∧ Dig o ∧ val 4294967296 (o.take (2 * i)) = val 18446744073709551616 (l.take i)
theorem pow_two_mul (i : Nat) : 4294967296 ^ (2 * i) = 18446744073709551616 ^ i := by
 rw [Nat.pow_mul]
theorem FromAt.zero (l : List Nat) : FromAt l (List.replicate (2 * l.length) 0) 0 := ⟨by simp, by intro x hx; simp at hx; omega, by simp⟩
theorem FromAt.step {l o : List Nat} {i p q : Nat} (h : FromAt l o i) (hi : i < l.length) (hp : p < 4294967296) (hq : q < 4294967296) (he : p + 4294967296 * q = dg l i) : FromAt l ((o.set (2 * i) p).set (2 * i + 1) q) (i + 1) := by
 obtain ⟨h1, h2, h3⟩ := h
 refine ⟨by simpa using h1, (h2.set _ _ hp).set _ _ hq, ?_⟩
 rw [show 2 * (i + 1) = 2 * i + 1 + 1 by omega, val_take_set _ (by simp; omega), val_take_set _ (by omega), h3, val_take_getD, ← he, Nat.pow_succ, pow_two_mul]
 simp only [Nat.mul_add, Nat.mul_assoc, Nat.add_assoc]
theorem FromAt.fin {l o : List Nat} (h : FromAt l o l.length) : val 4294967296 o = val 18446744073709551616 l := by
 obtain ⟨h1, _, h3⟩ := h
 rwa [List.take_of_length_le (by omega), List.take_length] at h3

theorem dg_cons_zero (a : Nat) (l : List Nat) : dg (a :: l) 0 = a := rfl
theorem dg_cons_succ (a : Nat) (l : List Nat) (i : Nat) : dg (a :: l) (i + 1) = dg l i := rfl
theorem take_succ_dg {l : List Nat} {k : Nat} (h : k < l.length) : l.take (k + 1) = l.take k ++ [dg l k] := by
 rw [List.take_succ_eq_append_getElem h, dg, getD_eq' h]

theorem own_block_le {w : World} {base n size : Nat} {e : TypeId} {v : Value} {xs : List Value} (h : w.ownsRow base e size v n xs) {j : Nat} (hj : v.ownBlock = some j) : base ≤ j := by
 obtain ⟨h0, ⟨rfl, _⟩ | ⟨g, cap, cur, rfl, hg, _⟩⟩ := h
 · simp [Value.ownBlock] at hj
 · simp [Value.ownBlock] at hj
   omega

end Go.Proofs.YtendnkpiidhogaaGreat

namespace Go.Proofs.YtendnkpiidhogaaGreat
open Go.RowKit

def SameTo (l m : List Nat) (k : Nat) : Prop := ∀ j, j < k → dg l j = dg m j
theorem SameTo.step {l m : List Nat} {k : Nat} (h : SameTo l m k) (he : dg l k = dg m k) : SameTo l m (k + 1) := fun j hj => by
 rcases Nat.lt_or_ge j k with h1 | h1
 · exact h j h1
 · obtain rfl : j = k := by omega
   exact he
theorem SameTo.fin {l m : List Nat} (h : SameTo l m l.length) (hl : l.length = m.length) : l = m := by
 apply List.ext_getElem hl
 intro i h1 h2
 have := h i h1
 rwa [dg, dg, getD_eq' h1, getD_eq' h2] at this

def RL (w : World) (P : Nat → Prop) (A : Option Addr) (c : Nat) (l : List Nat) : Prop := RS w P 1 A l.length c (nts l) ∧ (∀ x ∈ l, x < 18446744073709551616) ∧ l.length ≤ 17592186044416
theorem RL.take {w : World} {P : Nat → Prop} {A : Option Addr} {c : Nat} {l : List Nat} (h : RL w P A c l) {n : Nat} (hn : n ≤ 1000000) (hn' : n ≤ l.length) : RN w P A c (l.take n) := by
 have := h.1.pre hn'
 rw [Nat.mul_one, nts_take] at this
 refine ⟨by rw [List.length_take, Nat.min_eq_left hn']; exact this, fun x hx => h.2.1 x (List.mem_of_mem_take hx), by rw [List.length_take]; omega⟩
theorem RL.below {w w' : World} {P : Nat → Prop} {A : Option Addr} {c B : Nat} {l : List Nat} (h : RL w P A c l) (hb : Below B w w') (hB : ∀ b, P b → b < B) : RL w' P A c l := ⟨h.1.below hb hB, h.2⟩

end Go.Proofs.YtendnkpiidhogaaGreat
