/- What attrs.Decode computes. -/
import Derived.Test.YtpikikaoelnheaaEnc2
namespace Go.Proofs.Ytpikikaoelnheaa
open Go.RowKit

/-- The list that bytes are, n attributes having been read. -/
def decW (n : Nat) (bs : List Nat) : Option (List (Int × List Nat)) :=
  if bs.length = 0 then some []
  else if bs.length < 4 ∨ n = 64 then none
  else if 16384 < bs.getD 2 0 * 256 + bs.getD 3 0 ∨ bs.length - 4 < bs.getD 2 0 * 256 + bs.getD 3 0 then none
  else (decW (n + 1) (bs.drop (4 + (bs.getD 2 0 * 256 + bs.getD 3 0)))).map ((((bs.getD 0 0 * 256 + bs.getD 1 0 : Nat) : Int), (bs.drop 4).take (bs.getD 2 0 * 256 + bs.getD 3 0)) :: ·)
  termination_by bs.length
  decreasing_by simp; omega
def decOf (bs : List Nat) : Option (List (Int × List Nat)) := decW 0 bs
/-- out having been read, rest is left. -/
def decInv (bs : List Nat) (out : List (Int × List Nat)) (rest : List Nat) : Prop := decOf bs = (decW out.length rest).map (out ++ ·)
theorem decInv_start (bs : List Nat) : decInv bs [] bs := by simp [decInv, decOf]
theorem decInv_end {bs : List Nat} {out : List (Int × List Nat)} {rest : List Nat} (h : decInv bs out rest) (h0 : rest.length = 0) : decOf bs = some out := by
  rw [decInv, decW, if_pos h0] at h; simpa using h
theorem decInv_few {bs : List Nat} {out : List (Int × List Nat)} {rest : List Nat} (h : decInv bs out rest) (h0 : rest.length ≠ 0) (h1 : rest.length < 4 ∨ out.length = 64) : decOf bs = none := by
  rw [decInv, decW, if_neg h0, if_pos h1] at h; simpa using h
theorem decInv_long {bs : List Nat} {out : List (Int × List Nat)} {rest : List Nat} (h : decInv bs out rest) (h0 : rest.length ≠ 0) (h1 : ¬ (rest.length < 4 ∨ out.length = 64))
    (h2 : 16384 < rest.getD 2 0 * 256 + rest.getD 3 0 ∨ rest.length - 4 < rest.getD 2 0 * 256 + rest.getD 3 0) : decOf bs = none := by
  rw [decInv, decW, if_neg h0, if_neg h1, if_pos h2] at h; simpa using h
theorem decInv_step {bs : List Nat} {out : List (Int × List Nat)} {rest : List Nat} (h : decInv bs out rest) (h0 : rest.length ≠ 0) (h1 : ¬ (rest.length < 4 ∨ out.length = 64))
    (h2 : ¬ (16384 < rest.getD 2 0 * 256 + rest.getD 3 0 ∨ rest.length - 4 < rest.getD 2 0 * 256 + rest.getD 3 0)) :
    decInv bs (out ++ [(((rest.getD 0 0 * 256 + rest.getD 1 0 : Nat) : Int), (rest.drop 4).take (rest.getD 2 0 * 256 + rest.getD 3 0))]) (rest.drop (4 + (rest.getD 2 0 * 256 + rest.getD 3 0))) := by
  rw [decInv, decW, if_neg h0, if_neg h1, if_neg h2] at h
  rw [decInv, h, List.length_append, Option.map_map]
  congr 1
  funext x
  simp

/-- A suffix of bytes that read. -/
theorem RB.drop {w : World} {P : Nat → Prop} {A : Option Addr} {c : Nat} {bs : List Nat} (h : RB w P A c bs) (k : Nat) (hk : k ≤ bs.length) {A' : Option Addr} {c' : Nat} (hc : bs.length - k ≤ c') (hc' : c' ≤ 9223372036854775807) (hA : k < bs.length → A' = A.map (·.add k)) : RB w P A' c' (bs.drop k) := by
  have h1 := h.1.sub (k := k) (m := bs.length) (c' := c') (A' := A') hk (Nat.le_refl _) hc hc' (by simpa using hA)
  have e : ((bys bs).drop (k * 1)).take ((bs.length - k) * 1) = bys (bs.drop k) := by
    rw [List.take_of_length_le (by simp [bys])]
    simp [bys, List.map_drop]
  rw [e] at h1
  have h2 := h.2.2
  exact ⟨by simpa using h1, fun b hb => h.2.1 b (List.mem_of_mem_drop hb), by simp; omega⟩

set_option maxHeartbeats 400000 in
theorem get16_at (ad : Addr) (n c x y : Nat) (w : World) (hc0 : w.cell? ad = some (.int .u8 (x : Int))) (hc1 : w.cell? ⟨ad.block, ad.off + 1, none⟩ = some (.int .u8 (y : Int))) (hb0 : (x : Int) < 256) (hb1 : (y : Int) < 256) (h2 : 2 ≤ n) :
    Calls Try.prog 58 #[.slice (some ad) n c] w fun e w' => e = .returned (.int .u16 ((x * 256 + y : Nat) : Int)) ∧ ∃ m, w' = w.drewN m := by
  have hn0 : (0 : Int) < (n : Int) := by omega
  have hn1 : (1 : Int) < (n : Int) := by omega
  go_enter Try.func58, Try.ntmps58
  go_wp2_with fail
  go_quiet (fail)
  go_wp2
  go_ret
  exact ⟨ret_int (or16 x y (by omega) (by omega)), _, rfl⟩
theorem get16_op (ad : Addr) (n c x y v : Nat) (w : World) (hc0 : w.cell? ad = some (.int .u8 (x : Int))) (hc1 : w.cell? ⟨ad.block, ad.off + 1, none⟩ = some (.int .u8 (y : Int))) (hb0 : (x : Int) < 256) (hb1 : (y : Int) < 256) (hv : x * 256 + y = v) (h2 : 2 ≤ n) :
    Calls Try.prog 58 #[.slice (some ad) n c] w fun e w' => e = .returned (.int .u16 (v : Int)) ∧ ∃ m, w' = w.drewN m := hv ▸ get16_at ad n c x y w hc0 hc1 hb0 hb1 h2
theorem get16_quiet {w : World} {n : Nat} {args : Array Value} {v : Value} (h : Calls Try.prog 58 args (w.drewN n) fun e w' => e = .returned v ∧ ∃ m, w' = (w.drewN n).drewN m) :
    Calls Try.prog 58 args (w.drewN n) fun e w' => e = .returned v ∧ ∃ m, w' = w.drewN m :=
  h.mono fun _ _ ⟨he, m, hm⟩ => ⟨he, n + m, by rw [hm, World.drewN_drewN]⟩

theorem getD_eq {bs : List Nat} {i : Nat} (h : i < bs.length) : bs.getD i 0 = bs[i] := by simp [List.getD, List.getElem?_eq_getElem h]

theorem clone_n (P : Nat → Prop) (A : Option Addr) (c n : Nat) (bs : List Nat) (w : World) (h : RB w P A c bs) (hn : bs.length = n) (hP : ∀ b, P b → b < w.heap.size) :
    Calls Try.prog 52 #[.slice A n c] w fun e w' => ∃ A' c', e = .returned (.slice A' n c') ∧ RB w' (In w.heap.size w'.heap.size) A' c' bs ∧ Below w.heap.size w w' := by
  subst hn
  exact clone_any P A c bs w h hP

def DecPost (w : World) (bs : List Nat) (e : Ending) (w' : World) : Prop :=
  ∃ A' c' cs, e = .returned (.tuple #[.slice A' ((decOf bs).getD []).length c', .bool (decOf bs).isSome]) ∧ OA w' w.heap.size A' c' ((decOf bs).getD []) cs ∧ Below w.heap.size w w'
theorem DecPost.no {w w' : World} {bs : List Nat} (h : decOf bs = none) (hb : Below w.heap.size w w') : DecPost w bs (.returned (.tuple #[.slice none 0 0, .bool false])) w' := by
  refine ⟨none, 0, [], ?_, ?_, hb⟩ <;> rw [h]
  · rfl
  · exact OA.nil_ _ _
theorem DecPost.yes {w w' : World} {bs : List Nat} {n : Nat} {A : Option Addr} {c : Nat} {out : List (Int × List Nat)} {cs : List Value} (h : decOf bs = some out) (hn : out.length = n) (ho : OA w' w.heap.size A c out cs) (hb : Below w.heap.size w w') : DecPost w bs (.returned (.tuple #[.slice A n c, .bool true])) w' := by
  refine ⟨A, c, cs, ?_, ?_, hb⟩ <;> rw [h]
  · rw [← hn]; rfl
  · exact ho

set_option maxRecDepth 100000 in
set_option maxHeartbeats 2000000 in
theorem dec_any (P : Nat → Prop) (A : Option Addr) (c : Nat) (bs : List Nat) (w : World) (hv : RB w P A c bs) (hP : ∀ b, P b → b < w.heap.size) :
    Calls Try.prog 44 #[.slice A bs.length c] w (DecPost w bs) := by
  go_enter Try.func44, Try.ntmps44
  go_wp2
  go_loopw [0, 4] (fun b v wr => ∃ (rest : List Nat) (Ar : Option Addr) (cr nr : Nat) (out : List (Int × List Nat)) (A' : Option Addr) (c' n : Nat) (cs : List Value), b = .slice Ar nr cr ∧ rest.length = nr ∧ RB w P Ar cr rest ∧ v = .slice A' n c' ∧ out.length = n ∧ n ≤ 64 ∧ OA wr w.heap.size A' c' out cs ∧ Below w.heap.size w wr ∧ decInv bs out rest) (fun b _ _ => match b with | .slice _ n _ => n | _ => 0)
  case atStart => exact ⟨bs, A, c, bs.length, [], none, 0, 0, [], rfl, rfl, hv, rfl, rfl, by omega, OA.nil_ _ _, Below.refl _ _, decInv_start bs⟩
  case round =>
    obtain ⟨rest, Ar, cr, nr, out, A', c', n, cs, rfl, hnr, hR, rfl, hn, hn64, hO, hB, hI⟩ := hrel
    have Hnr := Lib.hid hnr
    have Hn := Lib.hid hn
    have hcap := hR.cap
    rw [hnr] at hcap
    have hs := hB.size
    clear hnr hn
    by_cases h0 : nr = 0
    · have hd := Lib.hid (decInv_end hI (by rw [Hnr.out]; exact h0))
      have h0' : ¬ (0 : Int) < (nr : Int) := by omega
      go_wp2
      go_ret2
      exact DecPost.yes hd.out Hn.out hO hB
    · by_cases h4 : nr < 4
      · have hd := Lib.hid (decInv_few hI (by rw [Hnr.out]; exact h0) (.inl (by rw [Hnr.out]; exact h4)))
        go_wp2
        go_ret2
        exact DecPost.no hd.out hB
      · by_cases h64 : n = 64
        · have hd := Lib.hid (decInv_few hI (by rw [Hnr.out]; exact h0) (.inr (by rw [Hn.out]; exact h64)))
          have h64' : ((n : Int) == 64) = true := by simp; omega
          clear h64
          go_wp2
          go_ret2
          exact DecPost.no hd.out hB
        · have h64' : ((n : Int) == 64) = false := by simp; omega
          have hI1 := Lib.hid (And.intro hI (And.intro (show rest.length ≠ 0 by rw [Hnr.out]; exact h0) (show ¬ (rest.length < 4 ∨ out.length = 64) by rw [Hnr.out, Hn.out]; omega)))
          clear hI
          have hRw : RB wr P Ar cr rest := hR.below hB hP
          have hlr := Hnr.out
          obtain ⟨ad, e0, hp, k0, b0⟩ := hRw.at_ (i := 0) (by omega)
          subst e0
          obtain ⟨ad', e, _, k1, b1⟩ := hRw.at_ (i := 1) (by omega)
          injection e with e; subst e
          obtain ⟨ad', e, _, k2, b2⟩ := hRw.at_ (i := 2) (by omega)
          injection e with e; subst e
          obtain ⟨ad', e, _, k3, b3⟩ := hRw.at_ (i := 3) (by omega)
          injection e with e; subst e
          have g0 := getD_eq (bs := rest) (i := 0) (by omega)
          have g1 := getD_eq (bs := rest) (i := 1) (by omega)
          have g2 := getD_eq (bs := rest) (i := 2) (by omega)
          have g3 := getD_eq (bs := rest) (i := 3) (by omega)
          rw [← g0] at k0 b0
          rw [← g1] at k1 b1
          rw [← g2] at k2 b2
          rw [← g3] at k3 b3
          clear g0 g1 g2 g3 hlr
          obtain ⟨x0, e0⟩ : ∃ x, rest.getD 0 0 = x := ⟨_, rfl⟩
          obtain ⟨x1, e1⟩ : ∃ x, rest.getD 1 0 = x := ⟨_, rfl⟩
          obtain ⟨x2, e2⟩ : ∃ x, rest.getD 2 0 = x := ⟨_, rfl⟩
          obtain ⟨x3, e3⟩ : ∃ x, rest.getD 3 0 = x := ⟨_, rfl⟩
          rw [e0] at k0 b0
          rw [e1] at k1 b1
          rw [e2] at k2 b2
          rw [e3] at k3 b3
          simp [Addr.add] at k0 k1 k2 k3
          have E0 := Lib.hid e0
          have E1 := Lib.hid e1
          have E2 := Lib.hid e2
          have E3 := Lib.hid e3
          obtain ⟨t, ht⟩ : ∃ t, x0 * 256 + x1 = t := ⟨_, rfl⟩
          obtain ⟨m, hm⟩ : ∃ m, x2 * 256 + x3 = m := ⟨_, rfl⟩
          have htl : t < 65536 := by omega
          have hml : m < 65536 := by omega
          have Ht := Lib.hid ht
          have Hm := Lib.hid hm
          have hwt : IntKind.i64.wrap (t : Int) = (t : Int) := by rw [IntKind.wrap_i64]; omega
          have hwm : IntKind.i64.wrap (m : Int) = (m : Int) := by rw [IntKind.wrap_i64]; omega
          have hnr2 : (2 : Int) ≤ (nr : Int) := by omega
          have hc2 : ¬ cr = 2 := by omega
          have hP1 : ∀ b, P b → b < wr.heap.size := fun b hb => by have := hP b hb; omega
          clear e0 e1 e2 e3 ht hm
          go_wp2_with fail
          go_quiet ((go_at_call 58; exact get16_quiet (get16_op _ _ _ _ _ _ _ (by first | exact k0 | exact k2) (by first | exact k1 | exact k3) (by first | exact b0 | exact b2) (by first | exact b1 | exact b3) (by first | exact Ht.out | exact Hm.out) (by omega))))
          clear hwt hwm
          by_cases hbad : 16384 < m ∨ nr - 4 < m
          · have hd := Lib.hid (decInv_long hI1.out.1 hI1.out.2.1 hI1.out.2.2 (by rw [E2.out, E3.out, Hm.out, Hnr.out]; exact hbad))
            rcases hbad with hbad | hbad
            all_goals
              by_cases hc4 : cr = 4
              · subst hc4
                go_wp2
                all_goals (go_ret2; exact DecPost.no hd.out (below_drewN hB _))
              · go_wp2
                all_goals (go_ret2; exact DecPost.no hd.out (below_drewN hB _))
          · have hst := Lib.hid (decInv_step hI1.out.1 hI1.out.2.1 hI1.out.2.2 (by rw [E2.out, E3.out, Hm.out, Hnr.out]; exact hbad))
            rw [E0.out, E1.out, E2.out, E3.out, Hm.out, Ht.out] at hst
            have hm1 : m ≤ 16384 := by omega
            have hm2 : m ≤ nr - 4 := by omega
            clear hbad
            by_cases hc4 : cr = 4
            · subst hc4
              obtain rfl : nr = 4 := by omega
              obtain rfl : m = 0 := by omega
              go_wp2_with fail
              have h4q : ∀ q, RB (wr.drewN q) P (some ad) 0 ((rest.drop 4).take 0) := fun q => ((hRw.drop 4 (by have := Hnr.out; omega) (by have := Hnr.out; omega) (by omega) (by have := Hnr.out; omega)).take 0)
              refine (clone_n P (some ad) 0 0 ((rest.drop 4).take 0) _ (h4q _) (by have := Hnr.out; simp <;> omega) hP1).mono ?_
              rintro e w2 ⟨A1, c1, rfl, hr, hB2⟩
              have hb2 : Below wr.heap.size wr w2 := ⟨hB2.os, hB2.tape, hB2.output, hB2.size, hB2.block⟩
              have hr2 : RB w2 (In wr.heap.size w2.heap.size) A1 c1 ((rest.drop 4).take 0) := hr
              have hO2 := hO.below hb2
              have hs2 := hb2.size
              clear hB2 hr
              go_wp2_with (at_builtin; refine app48one (w0 := w2) rfl (.tmp 35) (.tmp 42) rfl w.heap.size (.slice A' n c') n cs rfl (Hn.out ▸ hO2.1) 0 rfl rfl ⟨rfl, rfl⟩ (by omega) (by omega) ?_; intro A3 c3 w3 hown3 hg3 hor3)
              have hlen := Lib.hid (show ((rest.drop 4).take 0).length = 0 by simp)
              have hown4 := hown3
              have hg4 := hg3
              rw [← hlen.out] at hown4 hg4
              have hO3 := OA.snoc (x := ((t : Int), (rest.drop 4).take 0)) hO Hn.out (hb2.alloc hs2 _) ((hr2.keep fun p hp => World.cell?_alloc_lt w2 _ p hp.2).mono fun b hb => ⟨hb.1, by have := hb.2; simp; omega⟩) hs hown4 hg4 (by have h := hor3; simp at h ⊢; exact h)
              have hB3 := (hB.trans ((hb2.alloc hs2 (.cells #[.int .i64 (t : Int), .slice A1 0 c1] 48)).mono hs)).grown hg3 (by simp; omega) (fun g hg => by rw [← Hn.out] at hg; exact (hO.1.lt g hg).1)
              clear hown3 hg3 hor3 hr2 hown4 hg4
              go_wp2
              go_roundw
              case rel => exact ⟨rest.drop (4 + 0), (some ad), 0, 0, _, A3, c3, n + 1, _, rfl, by have := Hnr.out; simp <;> omega, hR.drop (4 + 0) (by have := Hnr.out; omega) (by have := Hnr.out; omega) (by omega) (by have := Hnr.out; omega), rfl, by simp [Hn.out], by omega, hO3, hB3, hst.out⟩
              case measure => simp <;> omega
            · by_cases hcm : cr - 4 = m
              · obtain rfl : cr = m + 4 := by omega
                clear hcm
                go_wp2_with fail
                have h4q : ∀ q, RB (wr.drewN q) P (some ⟨ad.block, ad.off + 4, none⟩) m ((rest.drop 4).take m) := fun q => ((hRw.drop 4 (by have := Hnr.out; omega) (by have := Hnr.out; omega) (by omega) (fun _ => by simp [Addr.add])).take m)
                refine (clone_n P (some ⟨ad.block, ad.off + 4, none⟩) m m ((rest.drop 4).take m) _ (h4q _) (by have := Hnr.out; simp <;> omega) hP1).mono ?_
                rintro e w2 ⟨A1, c1, rfl, hr, hB2⟩
                have hb2 : Below wr.heap.size wr w2 := ⟨hB2.os, hB2.tape, hB2.output, hB2.size, hB2.block⟩
                have hr2 : RB w2 (In wr.heap.size w2.heap.size) A1 c1 ((rest.drop 4).take m) := hr
                have hO2 := hO.below hb2
                have hs2 := hb2.size
                clear hB2 hr
                go_wp2_with (at_builtin; refine app48one (w0 := w2) rfl (.tmp 35) (.tmp 42) rfl w.heap.size (.slice A' n c') n cs rfl (Hn.out ▸ hO2.1) 0 rfl rfl ⟨rfl, rfl⟩ (by omega) (by omega) ?_; intro A3 c3 w3 hown3 hg3 hor3)
                have hlen := Lib.hid (show ((rest.drop 4).take m).length = m by have := Hnr.out; simp; omega)
                have hown4 := hown3
                have hg4 := hg3
                rw [← hlen.out] at hown4 hg4
                have hO3 := OA.snoc (x := ((t : Int), (rest.drop 4).take m)) hO Hn.out (hb2.alloc hs2 _) ((hr2.keep fun p hp => World.cell?_alloc_lt w2 _ p hp.2).mono fun b hb => ⟨hb.1, by have := hb.2; simp; omega⟩) hs hown4 hg4 (by have h := hor3; simp at h ⊢; exact h)
                have hB3 := (hB.trans ((hb2.alloc hs2 (.cells #[.int .i64 (t : Int), .slice A1 m c1] 48)).mono hs)).grown hg3 (by simp; omega) (fun g hg => by rw [← Hn.out] at hg; exact (hO.1.lt g hg).1)
                clear hown3 hg3 hor3 hr2 hown4 hg4
                go_wp2
                go_roundw
                case rel => exact ⟨rest.drop (4 + m), (some ⟨ad.block, ad.off + 4, none⟩), 0, 0, _, A3, c3, n + 1, _, rfl, by have := Hnr.out; simp <;> omega, hR.drop (4 + m) (by have := Hnr.out; omega) (by have := Hnr.out; omega) (by omega) (by have := Hnr.out; omega), rfl, by simp [Hn.out], by omega, hO3, hB3, hst.out⟩
                case measure => simp <;> omega
              · go_wp2_with fail
                have h4q : ∀ q, RB (wr.drewN q) P (some ⟨ad.block, ad.off + 4, none⟩) (cr - 4) ((rest.drop 4).take m) := fun q => ((hRw.drop 4 (by have := Hnr.out; omega) (by have := Hnr.out; omega) (by omega) (fun _ => by simp [Addr.add])).take m)
                refine (clone_n P (some ⟨ad.block, ad.off + 4, none⟩) (cr - 4) m ((rest.drop 4).take m) _ (h4q _) (by have := Hnr.out; simp <;> omega) hP1).mono ?_
                rintro e w2 ⟨A1, c1, rfl, hr, hB2⟩
                have hb2 : Below wr.heap.size wr w2 := ⟨hB2.os, hB2.tape, hB2.output, hB2.size, hB2.block⟩
                have hr2 : RB w2 (In wr.heap.size w2.heap.size) A1 c1 ((rest.drop 4).take m) := hr
                have hO2 := hO.below hb2
                have hs2 := hb2.size
                clear hB2 hr
                go_wp2_with (at_builtin; refine app48one (w0 := w2) rfl (.tmp 35) (.tmp 42) rfl w.heap.size (.slice A' n c') n cs rfl (Hn.out ▸ hO2.1) 0 rfl rfl ⟨rfl, rfl⟩ (by omega) (by omega) ?_; intro A3 c3 w3 hown3 hg3 hor3)
                have hlen := Lib.hid (show ((rest.drop 4).take m).length = m by have := Hnr.out; simp; omega)
                have hown4 := hown3
                have hg4 := hg3
                rw [← hlen.out] at hown4 hg4
                have hO3 := OA.snoc (x := ((t : Int), (rest.drop 4).take m)) hO Hn.out (hb2.alloc hs2 _) ((hr2.keep fun p hp => World.cell?_alloc_lt w2 _ p hp.2).mono fun b hb => ⟨hb.1, by have := hb.2; simp; omega⟩) hs hown4 hg4 (by have h := hor3; simp at h ⊢; exact h)
                have hB3 := (hB.trans ((hb2.alloc hs2 (.cells #[.int .i64 (t : Int), .slice A1 m c1] 48)).mono hs)).grown hg3 (by simp; omega) (fun g hg => by rw [← Hn.out] at hg; exact (hO.1.lt g hg).1)
                clear hown3 hg3 hor3 hr2 hown4 hg4
                go_wp2
                go_roundw
                case rel => exact ⟨rest.drop (4 + m), _, (cr - 4 - m), (nr - 4 - m), _, A3, c3, n + 1, _, rfl, by have := Hnr.out; simp <;> omega, hR.drop (4 + m) (by have := Hnr.out; omega) (by have := Hnr.out; omega) (by omega) (fun _ => by simp [Addr.add]), rfl, by simp [Hn.out], by omega, hO3, hB3, hst.out⟩
                case measure => simp <;> omega
end Go.Proofs.Ytpikikaoelnheaa
