/- DER in plain words: which bytes a node may hold, how a node begins, what is read. Nothing here walks the program. der.name, der.plain. der.plain: may a node that holds bytes hold these? der.head: tag, what is held, what is behind it. A node in memory; a world in which one block alone may have turned; bytes.Clone. (*der.reader).node: a node is read at a depth. (*der.reader).node: a node is read at a depth, its kids one by one. der.Read, keyfmt.read: the node that bytes begin with; the node that they are. keyfmt.read: the node that all of some bytes are. Numbers to the base 128, most significant first; der.digits. -/
import Derived.Test.YtendnkpiidhogaaGreatQac6401cc98fa
import Derived.Lib.Hide
import Derived.WalkMore
import Derived.BigQuiet
import Derived.Deep.QuietTactic
import Derived.Laws.Bits128
namespace Go.Proofs.YtendnkpiidhogaaGreat.Der

inductive DN where
 | mk (tag : Nat) (bs : List Nat) (kids : List DN)

theorem gD {α : Type} (l : List α) (d : α) {i : Nat} (h : i < l.length) : l.getD i d = l[i] := by simp [List.getD_eq_getElem?_getD, List.getElem?_eq_getElem h]
def be : Nat → List Nat → Nat
 | n, [] => n
 | n, x :: r => be (256 * n + x) r
def nameF : Bool → List Nat → Bool
 | bg, [] => bg
 | bg, x :: r => if bg && x == 128 then false else nameF (decide (x < 128)) r
def nameOf (b : List Nat) : Bool := decide (0 < b.length) && nameF true b
def plainOf (tag : Nat) (b : List Nat) : Bool :=
 if tag = 2 then decide (0 < b.length) && decide (b.getD 0 0 < 128) && (decide (0 < b.getD 0 0) || b.length == 1 || decide (128 ≤ b.getD 1 0))
 else if tag = 3 then decide (0 < b.length) && b.getD 0 0 == 0
 else if tag = 4 then true
 else if tag = 5 then b.length == 0
 else if tag = 6 then nameOf b
 else false
def cutAt (t n : Nat) (rest : List Nat) : Option (Nat × List Nat × List Nat) := if rest.length < n then none else some (t, rest.take n, rest.drop n)
def headOf : List Nat → Option (Nat × List Nat × List Nat)
  | t :: n :: rest =>
    if n < 128 then cutAt t n rest
    else if n - 128 < 1 ∨ 3 < n - 128 ∨ rest.length < n - 128 ∨ rest.getD 0 0 = 0 then none
    else if be 0 (rest.take (n - 128)) < 128 then none
    else cutAt t (be 0 (rest.take (n - 128))) (rest.drop (n - 128))
  | _ => none
def kidsOn (rd : Nat → List Nat → Option (DN × List Nat × Nat)) : Nat → Nat → List DN → List Nat → Option (List DN × Nat)
  | 0, left, acc, b => if b = [] then some (acc, left) else none
  | f + 1, left, acc, b => if b = [] then some (acc, left) else match rd left b with
    | none => none
    | some (k, r, l) => kidsOn rd f l (acc ++ [k]) r
def nodeOf : Nat → Nat → List Nat → Option (DN × List Nat × Nat)
  | 0, _, _ => none
  | d + 1, left, b =>
    if left = 0 then none
    else match headOf b with
      | none => none
      | some (t, h, r) =>
        if t ≠ 48 then (if plainOf t h then some (.mk t h [], r, left - 1) else none)
        else match kidsOn (nodeOf d) h.length (left - 1) [] h with
          | none => none
          | some (ks, l) => some (.mk 48 [] ks, r, l)
theorem cutAt_some {t n : Nat} {b : List Nat} {x : Nat × List Nat × List Nat} (h : cutAt t n b = some x) : x = (t, b.take n, b.drop n) ∧ n ≤ b.length := by
 unfold cutAt at h
 split at h
 · cases h
 · cases h; exact ⟨rfl, by omega⟩
theorem head_len {b : List Nat} {t : Nat} {h r : List Nat} (e : headOf b = some (t, h, r)) : h.length + r.length + 2 ≤ b.length := by
 unfold headOf at e
 split at e
 · rename_i t0 n rest
   split at e
   · obtain ⟨e, hl⟩ := cutAt_some e
     cases e
     simp; omega
   split at e
   · cases e
   split at e
   · cases e
   obtain ⟨e, hl⟩ := cutAt_some e
   simp only [Prod.mk.injEq] at e
   have e1 := congrArg List.length e.2.1
   have e2 := congrArg List.length e.2.2
   clear e
   rw [List.length_take] at e1
   rw [List.length_drop] at e2
   rw [List.length_drop] at hl e1 e2
   generalize be 0 (List.take (n - 128) rest) = m at *
   simp only [List.length_cons]
   omega
 · cases e
theorem node_len : ∀ {d left : Nat} {b : List Nat} {k : DN} {r : List Nat} {l : Nat}, nodeOf d left b = some (k, r, l) → r.length + 2 ≤ b.length
  | 0, _, _, _, _, _, e => by simp [nodeOf] at e
  | d + 1, left, b, k, r, l, e => by
    rw [nodeOf] at e
    split at e
    · cases e
    split at e
    · cases e
    rename_i t h r' hh
    have := head_len hh
    split at e
    · split at e
      · cases e; omega
      · cases e
    · split at e
      · cases e
      · cases e; omega
theorem kids_left {rd : Nat → List Nat → Option (DN × List Nat × Nat)} (hr : ∀ {left b k r l}, rd left b = some (k, r, l) → l < left) : ∀ {f left : Nat} {acc : List DN} {b : List Nat} {ks : List DN} {l : Nat}, kidsOn rd f left acc b = some (ks, l) → l ≤ left
  | 0, left, acc, b, ks, l, e => by
    unfold kidsOn at e
    split at e
    · cases e; exact Nat.le_refl _
    · cases e
  | f + 1, left, acc, b, ks, l, e => by
    unfold kidsOn at e
    split at e
    · cases e; exact Nat.le_refl _
    split at e
    · cases e
    rename_i k r l' hk
    have := kids_left hr e
    have := hr hk
    omega
theorem node_left : ∀ {d left : Nat} {b : List Nat} {k : DN} {r : List Nat} {l : Nat}, nodeOf d left b = some (k, r, l) → l < left
  | 0, _, _, _, _, _, e => by simp [nodeOf] at e
  | d + 1, left, b, k, r, l, e => by
    rw [nodeOf] at e
    split at e
    · cases e
    rename_i hl
    split at e
    · cases e
    split at e
    · split at e
      · cases e; omega
      · cases e
    · split at e
      · cases e
      · rename_i hk
        cases e
        have := kids_left (rd := nodeOf d) (fun h => node_left h) hk
        omega
theorem name_step {bg : Bool} {b : List Nat} {k : Nat} (hk : k < b.length) {x : Nat} (hx : b[k] = x) : nameF bg (b.drop k) = if bg && x == 128 then false else nameF (decide (x < 128)) (b.drop (k + 1)) := by
 rw [List.drop_eq_getElem_cons hk, hx, nameF]
end Go.Proofs.YtendnkpiidhogaaGreat.Der

namespace Go.Proofs.YtendnkpiidhogaaGreat.Der
open Go.RowKit Go.Shelf

attribute [local go_sem] Oper.semAt_some

theorem RB.getD {w : World} {P : Nat → Prop} {A : Option Addr} {c : Nat} {bs : List Nat} (h : RB w P A c bs) {i : Nat} (hi : i < bs.length) : ∃ ad, A = some ad ∧ P ad.block ∧ w.cell? (ad.add i) = some (.int .u8 (bs.getD i 0 : Nat)) ∧ bs.getD i 0 < 256 := by
 obtain ⟨ad, h1, h2, h3, h4⟩ := h.at_ hi
 rw [gD _ _ hi]
 exact ⟨ad, h1, h2, h3, by omega⟩

theorem RB.get0 {w : World} {P : Nat → Prop} {A : Option Addr} {c : Nat} {bs : List Nat} (h : RB w P A c bs) (hi : 0 < bs.length) : ∃ ad, A = some ad ∧ P ad.block ∧ w.cell? ad = some (.int .u8 (bs.getD 0 0 : Nat)) ∧ bs.getD 0 0 < 256 := by
 obtain ⟨ad, h1, h2, h3, h4⟩ := RB.getD h hi
 exact ⟨ad, h1, h2, by simpa [Addr.add] using h3, h4⟩
theorem RB.get1 {w : World} {P : Nat → Prop} {ad : Addr} {c : Nat} {bs : List Nat} (h : RB w P (some ad) c bs) (hi : 1 < bs.length) : w.cell? ⟨ad.block, ad.off + 1, none⟩ = some (.int .u8 (bs.getD 1 0 : Nat)) ∧ bs.getD 1 0 < 256 := by
 obtain ⟨ad', h1, h2, h3, h4⟩ := RB.getD h hi
 injection h1 with h1
 subst h1
 exact ⟨by simpa [Addr.add] using h3, h4⟩

set_option maxRecDepth 100000 in
set_option maxHeartbeats 4000000 in
theorem name_any (P : Nat → Prop) (A : Option Addr) (c : Nat) (b : List Nat) (w : World) (h : RB w P A c b) :
 Calls Tryz.prog 239 #[.slice A b.length c] w fun e w' => e = .returned (.bool (nameOf b)) ∧ ∃ d, w' = w.drewN d := by
 obtain ⟨hlc, hc, hl⟩ := h.cap
 have H := Lib.hid h
 obtain ⟨R, hR⟩ : ∃ R, nameOf b = R := ⟨_, rfl⟩
 rw [hR]
 have HR := Lib.hid hR
 clear h hR
 go_enter Tryz.func239, Tryz.ntmps239
 go_wp2
 go_loopw [3, 8] (fun v i wr => ∃ (k : Nat) (bg : Bool), k ≤ b.length ∧ i = .int .i64 k ∧ v = .bool bg ∧ nameF true b = nameF bg (b.drop k) ∧ ∃ d, wr = w.drewN d) (fun _ i _ => b.length - (intOf i).toNat)
 case atStart => exact ⟨0, true, by omega, rfl, rfl, by simp, 0, rfl⟩
 case round =>
  obtain ⟨k, bg, hk, rfl, rfl, hN, d, rfl⟩ := hrel
  by_cases hlt : k < b.length
  · obtain ⟨ad, rfl, -, hx, hx2⟩ := (H.out.keep (w' := w.drewN d) fun _ _ => rfl).at_ hlt
    obtain ⟨x, hxe⟩ : ∃ x, b[k] = x := ⟨_, rfl⟩
    rw [hxe] at hx hx2
    have HN := Lib.hid (hN.trans (name_step hlt hxe))
    have q1 : (k : Int) < (b.length : Int) := by omega
    clear hN hxe
    by_cases h1 : bg = true ∧ x = 128
    · obtain ⟨rfl, rfl⟩ := h1
      have hR : false = R := by rw [← HR.out]; unfold nameOf; rw [HN.out]; simp
      subst hR
      go_wp2
      go_ret
      exact ⟨rfl, d, rfl⟩
    · have hN2 := Lib.hid (HN.out.trans (if_neg (by simpa using h1)))
      have g2 : ((x : Int) < 128) = (x < 128) := by simp; omega
      cases bg
      · go_wp2
        go_roundw
        case rel => exact ⟨k + 1, decide (x < 128), by omega, by go_num, by simp [], hN2.out, d, rfl⟩
        case measure => simp [intOf]; omega
      · have g1 : ¬ (x : Int) = 128 := by simp at h1; omega
        have g1' : ((x : Int) == 128) = false := by simpa using g1
        go_wp2
        go_roundw
        case rel => exact ⟨k + 1, decide (x < 128), by omega, by go_num, by simp [], hN2.out, d, rfl⟩
        case measure => simp [intOf]; omega
  · obtain rfl : k = b.length := by omega
    have hR : (decide (0 < b.length) && bg) = R := by rw [← HR.out]; unfold nameOf; rw [hN]; simp [nameF]
    clear hN
    by_cases h0 : 0 < b.length
    · have hR' : bg = R := by simpa [h0] using hR
      subst hR'
      have h0' : (0 : Int) < (b.length : Int) := by omega
      go_wp2
      go_ret
      exact ⟨rfl, d, rfl⟩
    · have hR' : false = R := by simpa [h0] using hR
      subst hR'
      have h0' : ¬ (0 : Int) < (b.length : Int) := by omega
      go_wp2
      go_ret
      exact ⟨rfl, d, rfl⟩
end Go.Proofs.YtendnkpiidhogaaGreat.Der

namespace Go.Proofs.YtendnkpiidhogaaGreat.Der
open Go.RowKit Go.Shelf

attribute [local go_sem] Oper.semAt_some

set_option maxRecDepth 100000 in
set_option maxHeartbeats 4000000 in
theorem plain_any (P : Nat → Prop) (A : Option Addr) (c tag : Nat) (b : List Nat) (w : World) (h : RB w P A c b) :
 Calls Tryz.prog 234 #[.int .i64 tag, .slice A b.length c] w fun e w' => e = .returned (.bool (plainOf tag b)) ∧ ∃ d, w' = w.drewN d := by
 obtain ⟨hlc, hc, hl⟩ := h.cap
 have H := Lib.hid h
 have HN := Lib.hid (name_any P A c b w h)
 obtain ⟨R, hR⟩ : ∃ R, plainOf tag b = R := ⟨_, rfl⟩
 rw [hR]
 have fin : ∀ {v : Bool}, v = R → Ending.returned (.bool v) = Ending.returned (.bool R) ∧ ∃ d, w = w.drewN d := fun h => ⟨by rw [h], 0, rfl⟩
 obtain ⟨n, hn⟩ : ∃ n, b.length = n := ⟨_, rfl⟩
 rw [hn] at hlc hl HN ⊢
 have Hn := Lib.hid hn
 clear h hn
 obtain ⟨z, hz⟩ : ∃ z : Int, (tag : Int) = z := ⟨_, rfl⟩
 rw [hz]
 by_cases t2 : tag = 2
 · subst t2
   obtain rfl : z = 2 := hz.symm
   clear hz
   unfold plainOf at hR
   rw [if_pos rfl, Hn.out] at hR
   by_cases h0 : n = 0
   · have hR' : false = R := by rw [← hR]; simp [h0]
     subst h0
     clear hR
     subst hR'
     go_enter Tryz.func234, Tryz.ntmps234
     go_wp2
     go_ret
     exact fin rfl
   have h0' : (0 : Int) < (n : Int) := by omega
   have h0'' : 0 < n := by omega
   obtain ⟨ad, rfl, -, x0, y0⟩ := RB.get0 H.out (by rw [Hn.out]; omega)
   obtain ⟨b0, hb0⟩ : ∃ x, b.getD 0 0 = x := ⟨_, rfl⟩
   rw [hb0] at x0 y0 hR
   by_cases h1 : b0 < 128
   rotate_left
   · have hR' : false = R := by rw [← hR]; simp [h1]
     have h1' : ¬ (b0 : Int) < 128 := by omega
     clear hR
     subst hR'
     go_enter Tryz.func234, Tryz.ntmps234
     go_wp2
     go_ret
     exact fin rfl
   have h1' : (b0 : Int) < 128 := by omega
   by_cases h2 : 0 < b0
   · have hR' : true = R := by rw [← hR]; simp [h0'', h1, h2]
     have h2' : (0 : Int) < (b0 : Int) := by omega
     clear hR
     subst hR'
     go_enter Tryz.func234, Tryz.ntmps234
     go_wp2
     go_ret
     exact fin rfl
   have h2' : ¬ (0 : Int) < (b0 : Int) := by omega
   by_cases h3 : n = 1
   · have hR' : true = R := by rw [← hR]; simp [h1, h2, h3]
     subst h3
     clear hR
     subst hR'
     go_enter Tryz.func234, Tryz.ntmps234
     go_wp2
     go_ret
     exact fin rfl
   have h3' : ((n : Int) == 1) = false := beq_eq_false_iff_ne.2 (by omega)
   have h4 : 1 < n := by omega
   have h4' : (1 : Int) < (n : Int) := by omega
   obtain ⟨x1, y1⟩ := RB.get1 H.out (by rw [Hn.out]; omega)
   obtain ⟨b1, hb1⟩ : ∃ x, b.getD 1 0 = x := ⟨_, rfl⟩
   rw [hb1] at x1 y1 hR
   have hR' : decide (128 ≤ b1) = R := by rw [← hR]; simp [h0'', h1, h2, h3]
   by_cases h5 : 128 ≤ b1
   · have h5' : (128 : Int) ≤ (b1 : Int) := by omega
     have hR2 : true = R := by rw [← hR']; simp [h5]
     clear hR hR'
     subst hR2
     go_enter Tryz.func234, Tryz.ntmps234
     go_wp2
     go_ret
     exact fin rfl
   · have h5' : ¬ (128 : Int) ≤ (b1 : Int) := by omega
     have hR2 : false = R := by rw [← hR']; simp [h5]
     clear hR hR'
     subst hR2
     go_enter Tryz.func234, Tryz.ntmps234
     go_wp2
     go_ret
     exact fin rfl
 have t2' : (z == 2) = false := beq_eq_false_iff_ne.2 (by omega)
 by_cases t3 : tag = 3
 · subst t3
   obtain rfl : z = 3 := hz.symm
   clear hz
   unfold plainOf at hR
   rw [if_neg (by omega), if_pos rfl, Hn.out] at hR
   by_cases h0 : n = 0
   · have hR' : false = R := by rw [← hR]; simp [h0]
     subst h0
     clear hR t2 t2'
     subst hR'
     go_enter Tryz.func234, Tryz.ntmps234
     go_wp2
     go_ret
     exact fin rfl
   have h0' : (0 : Int) < (n : Int) := by omega
   have h0'' : 0 < n := by omega
   obtain ⟨ad, rfl, -, x0, y0⟩ := RB.get0 H.out (by rw [Hn.out]; omega)
   obtain ⟨b0, hb0⟩ : ∃ x, b.getD 0 0 = x := ⟨_, rfl⟩
   rw [hb0] at x0 y0 hR
   have hR' : (b0 == 0) = R := by rw [← hR]; simp [h0'']
   by_cases h5 : b0 = 0
   · subst h5
     have hR2 : true = R := by rw [← hR']; simp
     clear hR hR' t2 t2'
     subst hR2
     go_enter Tryz.func234, Tryz.ntmps234
     go_wp2
     go_ret
     exact fin rfl
   · have h5' : ((b0 : Int) == 0) = false := by simp; omega
     have hR2 : false = R := by rw [← hR']; simp [h5]
     clear hR hR' t2 t2'
     subst hR2
     go_enter Tryz.func234, Tryz.ntmps234
     go_wp2
     go_ret
     exact fin rfl
 have t3' : (z == 3) = false := beq_eq_false_iff_ne.2 (by omega)
 by_cases t4 : tag = 4
 · subst t4
   obtain rfl : z = 4 := hz.symm
   clear hz
   have hR2 : true = R := by rw [← hR]; rfl
   clear hR t2 t2' t3 t3'
   subst hR2
   go_enter Tryz.func234, Tryz.ntmps234
   go_wp2
   go_ret
   exact fin rfl
 have t4' : (z == 4) = false := beq_eq_false_iff_ne.2 (by omega)
 by_cases t5 : tag = 5
 · subst t5
   obtain rfl : z = 5 := hz.symm
   clear hz
   have hR' : (n == 0) = R := by rw [← hR, ← Hn.out]; rfl
   clear hR t2 t2' t3 t3' t4 t4'
   by_cases h0 : n = 0
   · subst h0
     have hR2 : true = R := by rw [← hR']; simp
     clear hR'
     subst hR2
     go_enter Tryz.func234, Tryz.ntmps234
     go_wp2
     go_ret
     exact fin rfl
   · have h0' : ((n : Int) == 0) = false := beq_eq_false_iff_ne.2 (by omega)
     have hR2 : false = R := by rw [← hR']; simp [h0]
     clear hR'
     subst hR2
     go_enter Tryz.func234, Tryz.ntmps234
     go_wp2
     go_ret
     exact fin rfl
 have t5' : (z == 5) = false := beq_eq_false_iff_ne.2 (by omega)
 by_cases t6 : tag = 6
 · subst t6
   obtain rfl : z = 6 := hz.symm
   clear hz
   have hR' : nameOf b = R := by rw [← hR]; rfl
   rw [hR'] at HN
   clear hR t2 t2' t3 t3' t4 t4' t5 t5' hR'
   go_enter Tryz.func234, Tryz.ntmps234
   go_wp2_with fail
   refine HN.out.mono ?_
   rintro e w1 ⟨rfl, d, rfl⟩
   go_wp2
   go_ret
   exact ⟨rfl, d, rfl⟩
 have t6' : (z == 6) = false := beq_eq_false_iff_ne.2 (by omega)
 have hR2 : false = R := by rw [← hR]; unfold plainOf; rw [if_neg t2, if_neg t3, if_neg t4, if_neg t5, if_neg t6]
 clear hR t2 t3 t4 t5 t6 hz
 subst hR2
 go_enter Tryz.func234, Tryz.ntmps234
 go_wp2
 go_ret
 exact fin rfl
end Go.Proofs.YtendnkpiidhogaaGreat.Der

namespace Go.Proofs.YtendnkpiidhogaaGreat.Der
open Go.RowKit Go.Shelf

attribute [local go_sem] Oper.semAt_some

theorem or_i64 (a x : Nat) (ha : a < 4294967296) (hx : x < 256) : bits .or .i64 ((a : Int) * 256) (x : Int) = ((256 * a + x : Nat) : Int) := by
 have h1 : (BitVec.ofInt 64 ((a : Int) * 256)).toNat = a * 256 := by
  rw [show (a : Int) * 256 = ((a * 256 : Nat) : Int) by omega, BitVec.ofInt_natCast, BitVec.toNat_ofNat]; exact Nat.mod_eq_of_lt (by omega)
 have h2 : (BitVec.ofInt 64 (x : Int)).toNat = x := by
  rw [BitVec.ofInt_natCast, BitVec.toNat_ofNat]; exact Nat.mod_eq_of_lt (by omega)
 have h3 : a * 256 ||| x = 256 * a + x := by
  have := Nat.shiftLeft_add_eq_or_of_lt (b := x) (i := 8) (by omega) a
  rw [Nat.shiftLeft_eq] at this
  rw [← this]; omega
 show IntKind.i64.wrap ((BitVec.ofInt 64 ((a : Int) * 256) ||| BitVec.ofInt 64 (x : Int)).toNat : Int) = _
 rw [BitVec.toNat_or, h1, h2, h3, IntKind.wrap_i64]
 omega
def HeadP (R : Option (Nat × List Nat × List Nat)) (P : Nat → Prop) (e : Ending) (w' : World) : Prop :=
 match R with
 | none => e = .returned (.tuple #[.int .i64 0, .slice none 0 0, .slice none 0 0, .bool false])
 | some (t, h, r) => ∃ A1 c1 A2 c2, e = .returned (.tuple #[.int .i64 t, .slice A1 h.length c1, .slice A2 r.length c2, .bool true]) ∧ RB w' P A1 c1 h ∧ RB w' P A2 c2 r ∧ t < 256
theorem rb_mid {w : World} {P : Nat → Prop} {A : Option Addr} {c : Nat} {bs : List Nat} (h : RB w P A c bs) {k m c' : Nat} (hkm : k ≤ m) (hm : m ≤ bs.length) (hc : m - k ≤ c') (hc' : c' ≤ maxLen) {A' : Option Addr} (hA : k < m → A' = A.map (·.add k)) : RB w P A' c' ((bs.drop k).take (m - k)) := by
 have h1 := h.1.sub hkm hm hc hc' (A' := A') (by simpa using hA)
 have e : ((bys bs).drop (k * 1)).take ((m - k) * 1) = bys ((bs.drop k).take (m - k)) := by simp [bys, List.map_take, List.map_drop]
 rw [e] at h1
 have hl : ((bs.drop k).take (m - k)).length = m - k := by rw [List.length_take, List.length_drop]; omega
 refine ⟨by rw [hl]; exact h1, fun b hb => h.2.1 b (List.mem_of_mem_drop (List.mem_of_mem_take hb)), by rw [hl]; have := h.2.2; omega⟩
theorem rb_from {w : World} {P : Nat → Prop} {A : Option Addr} {c : Nat} {bs : List Nat} (h : RB w P A c bs) {k c' : Nat} (hk : k ≤ bs.length) (hc : bs.length - k ≤ c') (hc' : c' ≤ maxLen) {A' : Option Addr} (hA : k < bs.length → A' = A.map (·.add k)) : RB w P A' c' (bs.drop k) := by
 have := rb_mid h hk (Nat.le_refl _) hc hc' hA
 rwa [List.take_of_length_le (by simp)] at this
theorem slice_from {w : World} {P : Nat → Prop} {A : Option Addr} {c N : Nat} {b : List Nat} (h : RB w P A c b) (hN : b.length = N) {k m : Nat} (hk : N = k + m) : ∃ A2, (∀ W, (Instr.slice 33 (.slice A N c) (some (.int .i64 (k : Int))) none none).run Tryz.prog W = .ok (.slice A2 m (c - k)) W) ∧ RB w P A2 (c - k) (b.drop k) := by
 obtain ⟨h1, h2, h3⟩ := h.cap
 refine ⟨if c = k then A else A.map (·.add k), fun W => ?_, rb_from h (by omega) (by omega) (by unfold maxLen; omega) (fun hlt => by rw [if_neg (by omega)])⟩
 rw [run_slice_l W 33 A N c (by kernel_rfl) .i64 (k : Int) (by omega) (by omega)]
 rw [show ((sizeOf (Tryz.prog.elem 33)).run Tryz.prog W) = .ok 1 W by kernel_rfl]
 simp only [Result.andThen_ok, sliced, Int.toNat_natCast, Nat.mul_one]
 rw [show N - k = m by omega]
theorem slice_to {w : World} {P : Nat → Prop} {A : Option Addr} {c N : Nat} {b : List Nat} (h : RB w P A c b) (hN : b.length = N) {k : Nat} (hk : k ≤ N) : (∀ W, (Instr.slice 33 (.slice A N c) none (some (.int .i64 (k : Int))) none).run Tryz.prog W = .ok (.slice A k c) W) ∧ RB w P A c (b.take k) := by
 obtain ⟨h1, h2, h3⟩ := h.cap
 refine ⟨fun W => ?_, ?_⟩
 · rw [run_slice_h W 33 A N c (by kernel_rfl) .i64 (k : Int) (by omega) (by omega)]
   rw [show ((sizeOf (Tryz.prog.elem 33)).run Tryz.prog W) = .ok 1 W by kernel_rfl]
   have e : (if c = 0 then A else A.map (·.add (0 * 1))) = A := by
    split
    · rfl
    · cases A <;> simp [Addr.add]
   simp only [Result.andThen_ok, sliced, Int.toNat_natCast, e, Nat.sub_zero]
 · have := rb_mid h (k := 0) (m := k) (c' := c) (A' := A) (by omega) (by omega) (by omega) (by unfold maxLen; omega) (fun _ => by cases A <;> simp [Addr.add])
   simpa using this
theorem be_take {b : List Nat} {k : Nat} (hk : k < b.length) (n : Nat) : be n (b.take (k + 1)) = 256 * be n (b.take k) + b.getD k 0 := by
 have happ : ∀ (l : List Nat) (n x : Nat), be n (l ++ [x]) = 256 * be n l + x := by
  intro l
  induction l with
  | nil => intro n x; rfl
  | cons y l ih => intro n x; rw [List.cons_append, be, ih, be]
 rw [List.take_succ_eq_append_getElem hk, happ, gD _ _ hk]

theorem headP_some {R : Option (Nat × List Nat × List Nat)} {P : Nat → Prop} {w' : World} {t n m : Nat} {rest : List Nat} {A1 A2 : Option Addr} {c1 c2 : Nat} (hR : R = some (t, rest.take n, rest.drop n)) (hm : rest.length = m) (hn : n ≤ m) (ht : t < 256) (h1 : RB w' P A1 c1 (rest.take n)) (h2 : RB w' P A2 c2 (rest.drop n)) :
 HeadP R P (.returned (.tuple #[.int .i64 t, .slice A1 n c1, .slice A2 (m - n) c2, .bool true])) w' := by
 subst hR
 refine ⟨A1, c1, A2, c2, ?_, h1, h2, ht⟩
 rw [List.length_take, List.length_drop, hm, Nat.min_eq_left hn]
theorem head_short {t n : Nat} {rest : List Nat} (h : n < 128) : headOf (t :: n :: rest) = cutAt t n rest := if_pos h
theorem head_bad {t n : Nat} {rest : List Nat} (h : ¬ n < 128) (h2 : n - 128 < 1 ∨ 3 < n - 128 ∨ rest.length < n - 128 ∨ rest.getD 0 0 = 0) : headOf (t :: n :: rest) = none := (if_neg h).trans (if_pos h2)
theorem head_low {t n z : Nat} {rest : List Nat} (h : ¬ n < 128) (h2 : ¬ (n - 128 < 1 ∨ 3 < n - 128 ∨ rest.length < n - 128 ∨ rest.getD 0 0 = 0)) (hz : be 0 (rest.take (n - 128)) = z) (h3 : z < 128) : headOf (t :: n :: rest) = none := (if_neg h).trans ((if_neg h2).trans (by rw [hz, if_pos h3]))
theorem head_long {t n z : Nat} {rest : List Nat} (h : ¬ n < 128) (h2 : ¬ (n - 128 < 1 ∨ 3 < n - 128 ∨ rest.length < n - 128 ∨ rest.getD 0 0 = 0)) (hz : be 0 (rest.take (n - 128)) = z) (h3 : ¬ z < 128) : headOf (t :: n :: rest) = cutAt t z (rest.drop (n - 128)) := (if_neg h).trans ((if_neg h2).trans (by rw [hz, if_neg h3]))
theorem cutAt_no {t n : Nat} {rest : List Nat} (h : rest.length < n) : cutAt t n rest = none := if_pos h
theorem cutAt_yes {t n : Nat} {rest : List Nat} (h : n ≤ rest.length) : cutAt t n rest = some (t, rest.take n, rest.drop n) := if_neg (by omega)

set_option maxRecDepth 100000 in
set_option maxHeartbeats 8000000 in
theorem head_any (P : Nat → Prop) (A : Option Addr) (c : Nat) (b : List Nat) (w : World) (h : RB w P A c b) (_hP : ∀ q, P q → q < w.heap.size) :
 Calls Tryz.prog 233 #[.slice A b.length c] w fun e w' => HeadP (headOf b) P e w' ∧ Below w.heap.size w w' := by
 obtain ⟨hlc, hc, hl⟩ := h.cap
 obtain ⟨R, hR⟩ : ∃ R, headOf b = R := ⟨_, rfl⟩
 rw [hR]
 by_cases hsh : b.length < 2
 · have hR2 : none = R := by
    rw [← hR]
    rcases b with _ | ⟨x, _ | ⟨y, r⟩⟩
    · rfl
    · rfl
    · simp at hsh; omega
   subst hR2
   obtain ⟨N, hN⟩ : ∃ N, b.length = N := ⟨_, rfl⟩
   rw [hN] at hsh ⊢
   have hsh' : (N : Int) < 2 := by omega
   clear h hR hN hlc hl
   go_enter Tryz.func233, Tryz.ntmps233
   go_wp2
   refine bodyPost_ret (v := .tuple #[.int .i64 0, .slice none 0 0, .slice none 0 0, .bool false]) (by simp [results, Tryz.results233, go_sem]) rfl ?_
   exact ⟨rfl, Below.refl _ _⟩
 obtain ⟨t, n, rest, rfl⟩ : ∃ t n rest, b = t :: n :: rest := by
  rcases b with _ | ⟨x, _ | ⟨y, r⟩⟩
  · simp at hsh
  · simp at hsh
  · exact ⟨x, y, r, rfl⟩
 obtain ⟨ad, rfl, -, x0, y0⟩ := RB.get0 h (by simp)
 obtain ⟨x1, y1⟩ := RB.get1 h (by simp)
 simp only [List.getD_cons_zero, List.getD_cons_succ] at x0 y0 x1 y1
 obtain ⟨m, hm⟩ : ∃ m, rest.length = m := ⟨_, rfl⟩
 obtain ⟨N, hN⟩ : ∃ N, (t :: n :: rest).length = N := ⟨_, rfl⟩
 have hNm : N = 2 + m := by rw [← hN, ← hm]; simp; omega
 obtain ⟨A2, hs2, hr2⟩ := slice_from h hN (k := 2) (m := m) hNm
 have hr2 : RB w P A2 (c - 2) rest := hr2
 obtain ⟨c2, hc2⟩ : ∃ c2, c - 2 = c2 := ⟨_, rfl⟩
 rw [hc2] at hs2 hr2
 have hs2 : ∀ (W : World), (Instr.slice 33 (.slice (some ad) N c) (some (.int .i64 2)) none none).run Tryz.prog W = .ok (.slice A2 m c2) W := hs2
 rw [hN] at hlc hl hsh ⊢
 have g0 : ¬ (N : Int) < 2 := by omega
 have g1 : (0 : Int) < (N : Int) := by omega
 have g2 : (1 : Int) < (N : Int) := by omega
 have HR2 := Lib.hid hr2
 have HRe := Lib.hid hR
 have Hm := Lib.hid hm
 clear hR hm hN hc2 h hr2 hNm hsh
 obtain ⟨lc2, mc2, ll2⟩ := HR2.out.cap
 rw [Hm.out] at lc2 ll2
 go_enter Tryz.func233, Tryz.ntmps233
 go_wp2
 go_quiet (fail)
 have HD := Lib.hid (below_drewN (Below.refl w.heap.size w) nq)
 have HR3 := Lib.hid (HR2.out.keep (w' := w.drewN nq) fun _ _ => rfl)
 have Hy0 := Lib.hid (show t < 256 by omega)
 clear x0 x1 hs2 g0 g1 g2 HR2 _hP
 generalize w.drewN nq = w1 at *
 by_cases hn : n < 128
 · have HRn := Lib.hid (HRe.out.symm.trans (head_short hn))
   have hn1 : ¬ (128 : Int) ≤ (n : Int) := by omega
   by_cases hmn : m < n
   · have hR : R = none := HRn.out.trans (cutAt_no (by rw [Hm.out]; exact hmn))
     subst hR
     have hmn' : (m : Int) < (n : Int) := by omega
     go_wp2
     refine bodyPost_ret (v := .tuple #[.int .i64 0, .slice none 0 0, .slice none 0 0, .bool false]) (by simp [results, Tryz.results233, go_sem]) rfl ?_
     exact ⟨rfl, HD.out⟩
   have hmn' : ¬ (m : Int) < (n : Int) := by omega
   have hR : R = some (t, rest.take n, rest.drop n) := HRn.out.trans (cutAt_yes (by rw [Hm.out]; omega))
   obtain ⟨s1, q1⟩ := slice_to HR3.out Hm.out (k := n) (by omega)
   obtain ⟨A5, s2, q2⟩ := slice_from HR3.out Hm.out (k := n) (m := m - n) (by omega)
   obtain ⟨c5, hc5⟩ : ∃ c5, c2 - n = c5 := ⟨_, rfl⟩
   rw [hc5] at s2 q2
   obtain ⟨m5, hm5⟩ : ∃ m5, m - n = m5 := ⟨_, rfl⟩
   rw [hm5] at s2
   have Q1 := Lib.hid q1
   have Q2 := Lib.hid q2
   have HRR := Lib.hid hR
   have Hm5 := Lib.hid hm5
   clear q1 q2 hR hc5 hm5
   go_wp2
   go_quiet (fail)
   go_wp2
   refine bodyPost_ret (v := .tuple #[.int .i64 t, .slice A2 n c2, .slice A5 m5 c5, .bool true]) (by simp [results, Tryz.results233, go_sem]) rfl ?_
   refine ⟨?_, below_drewN HD.out _⟩
   rw [← Hm5.out]
   exact headP_some HRR.out Hm.out (by omega) Hy0.out (Q1.out.keep fun _ _ => rfl) (Q2.out.keep fun _ _ => rfl)
 have hn1 : (128 : Int) ≤ (n : Int) := by omega
 obtain ⟨k, hk⟩ : ∃ k, n - 128 = k := ⟨_, rfl⟩
 have hk1 : (n : Int) - 128 = (k : Int) := by omega
 have hbd := fun h2 => head_bad (t := t) (n := n) (rest := rest) hn h2
 have hlo := fun z h2 hz h3 => head_low (t := t) (n := n) (z := z) (rest := rest) hn h2 hz h3
 have hlg := fun z h2 hz h3 => head_long (t := t) (n := n) (z := z) (rest := rest) hn h2 hz h3
 rw [HRe.out, hk, Hm.out] at hbd
 simp only [HRe.out, hk, Hm.out] at hlo hlg
 have HBd := Lib.hid hbd
 have HLo := Lib.hid hlo
 have HLg := Lib.hid hlg
 have Hk := Lib.hid hk
 have k128 : k < 128 := by omega
 clear hbd hlo hlg hn hk HRe
 by_cases k1 : k < 1
 · have hR : R = none := HBd.out (.inl k1)
   subst hR
   have k1' : (k : Int) < 1 := by omega
   go_wp2
   refine bodyPost_ret (v := .tuple #[.int .i64 0, .slice none 0 0, .slice none 0 0, .bool false]) (by simp [results, Tryz.results233, go_sem]) rfl ?_
   exact ⟨rfl, HD.out⟩
 have k1' : ¬ (k : Int) < 1 := by omega
 by_cases k3 : 3 < k
 · have hR : R = none := HBd.out (.inr (.inl k3))
   subst hR
   have k3' : (3 : Int) < (k : Int) := by omega
   go_wp2
   refine bodyPost_ret (v := .tuple #[.int .i64 0, .slice none 0 0, .slice none 0 0, .bool false]) (by simp [results, Tryz.results233, go_sem]) rfl ?_
   exact ⟨rfl, HD.out⟩
 have k3' : ¬ (3 : Int) < (k : Int) := by omega
 by_cases km : m < k
 · have hR : R = none := HBd.out (.inr (.inr (.inl km)))
   subst hR
   have km' : (m : Int) < (k : Int) := by omega
   go_wp2
   refine bodyPost_ret (v := .tuple #[.int .i64 0, .slice none 0 0, .slice none 0 0, .bool false]) (by simp [results, Tryz.results233, go_sem]) rfl ?_
   exact ⟨rfl, HD.out⟩
 have km' : ¬ (m : Int) < (k : Int) := by omega
 have hm1 : (0 : Int) < (m : Int) := by omega
 obtain ⟨ar, rfl, -, x0, y0⟩ := RB.get0 HR3.out (by rw [Hm.out]; omega)
 obtain ⟨r0, hr0⟩ : ∃ r0, rest.getD 0 0 = r0 := ⟨_, rfl⟩
 rw [hr0] at x0 y0 HBd
 simp only [hr0] at HLo HLg
 by_cases k0 : r0 = 0
 · subst k0
   have hR : R = none := HBd.out (.inr (.inr (.inr rfl)))
   subst hR
   have x0' : w1.cell? ar = some (.int .u8 0) := x0
   clear x0
   go_wp2
   refine bodyPost_ret (v := .tuple #[.int .i64 0, .slice none 0 0, .slice none 0 0, .bool false]) (by simp [results, Tryz.results233, go_sem]) rfl ?_
   exact ⟨rfl, HD.out⟩
 have k0' : ((r0 : Int) == 0) = false := beq_eq_false_iff_ne.2 (by omega)
 have hno : ¬ (k < 1 ∨ 3 < k ∨ m < k ∨ r0 = 0) := by omega
 obtain ⟨s1, q1⟩ := slice_to HR3.out Hm.out (k := k) (by omega)
 have Q1 := Lib.hid q1
 have Hno := Lib.hid hno
 clear q1 hno hr0 HBd
 go_wp2
 go_loopw [7, 51] (fun v i wr => ∃ j : Nat, j ≤ k ∧ i = .int .i64 j ∧ v = .int .i64 (be 0 (rest.take j) : Nat) ∧ be 0 (rest.take j) < 256 ^ j ∧ wr = w1) (fun _ i _ => k - (intOf i).toNat)
 case atStart => exact ⟨0, by omega, rfl, rfl, by simp [be], rfl⟩
 case round =>
  obtain ⟨j, hj, rfl, rfl, hb, rfl⟩ := hrel
  by_cases hlt : j < k
  · obtain ⟨ar', er, -, xj, yj⟩ := RB.getD HR3.out (i := j) (by rw [Hm.out]; omega)
    injection er with er
    subst er
    obtain ⟨z, hz⟩ : ∃ z, be 0 (rest.take j) = z := ⟨_, rfl⟩
    have hz2 := be_take (b := rest) (k := j) (by rw [Hm.out]; omega) 0
    obtain ⟨x, hx⟩ : ∃ x, rest.getD j 0 = x := ⟨_, rfl⟩
    rw [hx] at xj yj hz2
    rw [hz] at hz2 hb ⊢
    have hp : (256 : Nat) ^ j ≤ 65536 := by
     have h3 : j ≤ 2 := by omega
     exact Nat.pow_le_pow_right (by omega) h3
    have h1 : IntKind.i64.wrap ((z : Int) * 256) = (z : Int) * 256 := by rw [IntKind.wrap_i64]; omega
    have h2 := or_i64 z x (by omega) (by omega)
    have hlt' : (j : Int) < (k : Int) := by omega
    have Hz2 := Lib.hid hz2
    have Hb2 := Lib.hid (show 256 * z + x < 256 ^ (j + 1) by rw [Nat.pow_succ]; omega)
    clear hz hx hz2 hb hp
    go_wp2
    go_roundw
    case rel => exact ⟨j + 1, by omega, by go_num, by rw [Hz2.out]; simp, by rw [Hz2.out]; exact Hb2.out, by first | trivial | rfl⟩
    case measure => simp [intOf]; omega
  · obtain rfl : j = k := by omega
    obtain ⟨z, hz⟩ : ∃ z, be 0 (rest.take j) = z := ⟨_, rfl⟩
    rw [hz]
    have HLo2 := HLo.out z Hno.out hz
    have HLg2 := HLg.out z Hno.out hz
    have hz3 : z < 16777216 := by
     rw [hz] at hb
     have : (256 : Nat) ^ j ≤ 256 ^ 3 := Nat.pow_le_pow_right (by omega) (by omega)
     omega
    clear hz hb HLo HLg hlt hj
    by_cases hz1 : z < 128
    · have hR : R = none := HLo2 hz1
      subst hR
      have hz1' : (z : Int) < 128 := by omega
      clear HLo2 HLg2
      go_wp2
      refine bodyPost_ret (v := .tuple #[.int .i64 0, .slice none 0 0, .slice none 0 0, .bool false]) (by simp [results, Tryz.results233, go_sem]) rfl ?_
      exact ⟨rfl, HD.out⟩
    have hz1' : ¬ (z : Int) < 128 := by omega
    have HRn := Lib.hid (HLg2 hz1)
    clear HLo2 HLg2 s1 Q1
    obtain ⟨A3, s3, q3⟩ := slice_from HR3.out Hm.out (k := j) (m := m - j) (by omega)
    obtain ⟨c3, hc3⟩ : ∃ c3, c2 - j = c3 := ⟨_, rfl⟩
    rw [hc3] at s3 q3
    have hm3 : (rest.drop j).length = m - j := by rw [List.length_drop, Hm.out]
    obtain ⟨m3, hm3'⟩ : ∃ m3, m - j = m3 := ⟨_, rfl⟩
    rw [hm3'] at s3 hm3
    obtain ⟨rest3, hr3⟩ : ∃ r3, rest.drop j = r3 := ⟨_, rfl⟩
    rw [hr3] at q3 hm3 HRn
    have Q3 := Lib.hid q3
    have Hm3 := Lib.hid hm3
    obtain ⟨lc3, mc3, ll3⟩ := q3.cap
    rw [hm3] at lc3 ll3
    clear q3 hm3 hc3 hm3' hr3
    go_upto_region 17 with fail
    clear s3
    by_cases hmn : m3 < z
    · have hR : R = none := HRn.out.trans (cutAt_no (by rw [Hm3.out]; exact hmn))
      subst hR
      have hmn' : (m3 : Int) < (z : Int) := by omega
      go_wp2
      refine bodyPost_ret (v := .tuple #[.int .i64 0, .slice none 0 0, .slice none 0 0, .bool false]) (by simp [results, Tryz.results233, go_sem]) rfl ?_
      exact ⟨rfl, HD.out⟩
    have hmn' : ¬ (m3 : Int) < (z : Int) := by omega
    have hR : R = some (t, rest3.take z, rest3.drop z) := HRn.out.trans (cutAt_yes (by rw [Hm3.out]; omega))
    obtain ⟨s1, q1⟩ := slice_to Q3.out Hm3.out (k := z) (by omega)
    obtain ⟨A5, s2, q2⟩ := slice_from Q3.out Hm3.out (k := z) (m := m3 - z) (by omega)
    obtain ⟨c5, hc5⟩ : ∃ c5, c3 - z = c5 := ⟨_, rfl⟩
    rw [hc5] at s2 q2
    obtain ⟨m5, hm5⟩ : ∃ m5, m3 - z = m5 := ⟨_, rfl⟩
    rw [hm5] at s2
    have Q1 := Lib.hid q1
    have Q2 := Lib.hid q2
    have HRR := Lib.hid hR
    have Hm5 := Lib.hid hm5
    clear q1 q2 hR hc5 hm5
    go_wp2
    go_quiet (fail)
    go_wp2
    refine bodyPost_ret (v := .tuple #[.int .i64 t, .slice A3 z c3, .slice A5 m5 c5, .bool true]) (by simp [results, Tryz.results233, go_sem]) rfl ?_
    refine ⟨?_, below_drewN HD.out _⟩
    rw [← Hm5.out]
    exact headP_some HRR.out Hm3.out (by omega) Hy0.out (Q1.out.keep fun _ _ => rfl) (Q2.out.keep fun _ _ => rfl)
end Go.Proofs.YtendnkpiidhogaaGreat.Der

namespace Go.Proofs.YtendnkpiidhogaaGreat.Der
open Go.RowKit Go.Shelf

attribute [local go_sem] Oper.semAt_some

mutual
def RD (w : World) (P : Nat → Prop) : DN → Value → Prop
 | .mk tag bs kids, v => ∃ A c Ak ck cs, v = .agg #[.int .i64 (tag : Int), .slice A bs.length c, .slice Ak kids.length ck] ∧ RB w P A c bs ∧ (tag = 48 → A = none ∧ c = 0) ∧ RS w P 3 Ak kids.length ck cs ∧ RDs w P kids cs
def RDs (w : World) (P : Nat → Prop) : List DN → List Value → Prop
 | [], cs => cs = []
 | k :: ks, cs => ∃ a b c rest, cs = a :: b :: c :: rest ∧ RD w P k (.agg #[a, b, c]) ∧ RDs w P ks rest
end
mutual
theorem RD.keep {w w' : World} {P : Nat → Prop} (hk : ∀ p : Addr, P p.block → w'.cell? p = w.cell? p) : ∀ {t : DN} {v : Value}, RD w P t v → RD w' P t v
  | .mk tag bs kids, v, h => by
    unfold RD at h ⊢
    obtain ⟨A, c, Ak, ck, cs, h1, h2, h3, h4, h5⟩ := h
    exact ⟨A, c, Ak, ck, cs, h1, h2.keep hk, h3, h4.keep hk, RDs.keep hk h5⟩
theorem RDs.keep {w w' : World} {P : Nat → Prop} (hk : ∀ p : Addr, P p.block → w'.cell? p = w.cell? p) : ∀ {ks : List DN} {cs : List Value}, RDs w P ks cs → RDs w' P ks cs
  | [], cs, h => by unfold RDs at h ⊢; exact h
  | k :: ks, cs, h => by
    unfold RDs at h ⊢
    obtain ⟨a, b, c, rest, h1, h2, h3⟩ := h
    exact ⟨a, b, c, rest, h1, RD.keep hk h2, RDs.keep hk h3⟩
end
mutual
theorem RD.mono {w : World} {P P' : Nat → Prop} (hp : ∀ b, P b → P' b) : ∀ {t : DN} {v : Value}, RD w P t v → RD w P' t v
  | .mk tag bs kids, v, h => by
    unfold RD at h ⊢
    obtain ⟨A, c, Ak, ck, cs, h1, h2, h3, h4, h5⟩ := h
    exact ⟨A, c, Ak, ck, cs, h1, h2.mono hp, h3, h4.mono hp, RDs.mono hp h5⟩
theorem RDs.mono {w : World} {P P' : Nat → Prop} (hp : ∀ b, P b → P' b) : ∀ {ks : List DN} {cs : List Value}, RDs w P ks cs → RDs w P' ks cs
  | [], cs, h => by unfold RDs at h ⊢; exact h
  | k :: ks, cs, h => by
    unfold RDs at h ⊢
    obtain ⟨a, b, c, rest, h1, h2, h3⟩ := h
    exact ⟨a, b, c, rest, h1, RD.mono hp h2, RDs.mono hp h3⟩
end
theorem RDs.length {w : World} {P : Nat → Prop} : ∀ {ks : List DN} {cs : List Value}, RDs w P ks cs → cs.length = ks.length * 3
  | [], cs, h => by unfold RDs at h; simp [h]
  | k :: ks, cs, h => by
    unfold RDs at h
    obtain ⟨a, b, c, rest, rfl, h2, h3⟩ := h
    have := RDs.length h3
    simp only [List.length_cons]
    omega
theorem RDs.snoc {w : World} {P : Nat → Prop} {a b c : Value} {k : DN} (hk : RD w P k (.agg #[a, b, c])) : ∀ {ks : List DN} {cs : List Value}, RDs w P ks cs → RDs w P (ks ++ [k]) (cs ++ [a, b, c])
  | [], cs, h => by
    unfold RDs at h
    subst h
    show RDs w P [k] [a, b, c]
    unfold RDs
    exact ⟨a, b, c, [], rfl, hk, by unfold RDs; rfl⟩
  | k' :: ks, cs, h => by
    unfold RDs at h
    obtain ⟨a', b', c', rest, rfl, h2, h3⟩ := h
    show RDs w P (k' :: (ks ++ [k])) _
    unfold RDs
    exact ⟨a', b', c', rest ++ [a, b, c], rfl, h2, RDs.snoc hk h3⟩
theorem RD.shape {w : World} {P : Nat → Prop} {t : DN} {v : Value} (h : RD w P t v) : ∃ a B1 n1 d1 B2 n2 d2, v = .agg #[.int .i64 a, .slice B1 n1 d1, .slice B2 n2 d2] := by
 cases t
 unfold RD at h
 obtain ⟨A, c, Ak, ck, cs, h1, -⟩ := h
 exact ⟨_, _, _, _, _, _, _, h1⟩
theorem RD.below {w w' : World} {P : Nat → Prop} {t : DN} {v : Value} {B : Nat} (h : RD w P t v) (hb : Below B w w') (hB : ∀ q, P q → q < B) : RD w' P t v := RD.keep (fun _ hp => hb.cell (hB _ hp)) h

structure Bb (s g : Nat) (w w' : World) : Prop where
 os : w'.os = w.os
 tape : w'.tape = w.tape
 output : w'.output = w.output
 size : w.heap.size ≤ w'.heap.size
 block : ∀ b, b < s → b ≠ g → w'.heap[b]? = w.heap[b]?
theorem Bb.refl (s g : Nat) (w : World) : Bb s g w w := ⟨rfl, rfl, rfl, Nat.le_refl _, fun _ _ _ => rfl⟩
theorem Bb.trans {s g : Nat} {a b c : World} (h : Bb s g a b) (k : Bb s g b c) : Bb s g a c :=
 ⟨k.os.trans h.os, k.tape.trans h.tape, k.output.trans h.output, Nat.le_trans h.size k.size, fun i hi hn => (k.block i hi hn).trans (h.block i hi hn)⟩
theorem Bb.mono {s s' g : Nat} {a b : World} (h : Bb s g a b) (hs : s' ≤ s) : Bb s' g a b := ⟨h.os, h.tape, h.output, h.size, fun i hi hn => h.block i (Nat.lt_of_lt_of_le hi hs) hn⟩
theorem below_bb {s : Nat} {w w' : World} (h : Below s w w') (g : Nat) : Bb s g w w' := ⟨h.os, h.tape, h.output, h.size, fun b hb _ => h.block b hb⟩
theorem Bb.set {s g : Nat} {a b : World} (h : Bb s g a b) (i : Nat) (v : Value) : Bb s g a (b.setCell ⟨g, i, none⟩ v) :=
 ⟨h.os, h.tape, h.output, by simpa [World.setCell] using h.size, fun i hi hn => (Below.heap_setCell _ _ _ _ (by exact hn)).trans (h.block i hi hn)⟩
theorem Bb.setCell {s g : Nat} {a b : World} (h : Bb s g a b) {p : Addr} (hp : s ≤ p.block) (v : Value) : Bb s g a (b.setCell p v) :=
 ⟨h.os, h.tape, h.output, by simpa [World.setCell] using h.size, fun i hi hn => (Below.heap_setCell _ _ _ _ (by omega)).trans (h.block i hi hn)⟩
theorem Bb.alloc {s g : Nat} {a b : World} (h : Bb s g a b) (hs : s ≤ b.heap.size) (o : Obj) : Bb s g a (b.alloc o) := h.trans (below_bb ((Below.refl s b).alloc hs o) g)
theorem Bb.cell {s g : Nat} {w w' : World} (h : Bb s g w w') {p : Addr} (hp : p.block < s) (hn : p.block ≠ g) : w'.cell? p = w.cell? p := World.cell?_of_block (h.block _ hp hn)
theorem Bb.rb {s g : Nat} {w w' : World} {P : Nat → Prop} {A : Option Addr} {c : Nat} {bs : List Nat} (h : RB w P A c bs) (hb : Bb s g w w') (hP : ∀ q, P q → q < s ∧ q ≠ g) : RB w' P A c bs := h.keep fun _ hp => hb.cell (hP _ hp).1 (hP _ hp).2
theorem bset {w : World} {g : Nat} {t : TypeId} {cs : Array Value} (h : w.heap[g]? = some (.cells cs t (0, 0))) (i : Nat) (u : Value) : (w.setCell ⟨g, i, none⟩ u).heap[g]? = some (.cells (cs.setIfInBounds i u) t (0, 0)) := by
 simp [World.setCell, Array.getElem?_modify, h]
theorem set3 {w : World} {s : Nat} {t : TypeId} {a b c : Value} (h : w.heap[s]? = some (.cells #[a, b, c] t (0, 0))) (u v x : Value) : (((w.setCell ⟨s, 0, none⟩ u).setCell ⟨s, 1, none⟩ v).setCell ⟨s, 2, none⟩ x).heap[s]? = some (.cells #[u, v, x] t (0, 0)) := by
 simpa using bset (bset (bset h 0 u) 1 v) 2 x

set_option maxHeartbeats 400000 in
theorem bclone_any (P : Nat → Prop) (A : Option Addr) (c : Nat) (bs : List Nat) (w : World) (h : RB w P A c bs) (hP : ∀ b, P b → b < w.heap.size) :
 Calls Tryz.prog 83 #[.slice A bs.length c] w fun e w' => ∃ A' c', e = .returned (.slice A' bs.length c') ∧ RB w' (In w.heap.size w'.heap.size) A' c' bs ∧ Below w.heap.size w w' := by
 obtain ⟨i0, hi, hz0, hz1, hz2⟩ := info_parts info8
 have q22 : ∀ (w : World) (a : Option Addr) (n c n' c' : Nat), (binOp .eql 33 (.slice a n c) (.slice none n' c')).run Tryz.prog w = .ok (.bool a.isNone) w := fun w a n c n' c' => Lib.run_eql_slice_nil w _ _ a n c n' c' Tryz.underlying33
 obtain ⟨h1, h2, h3⟩ := h.cap
 have hc0 := h.2.1
 rcases A with _ | ad
 · have hl : bs.length = 0 := by
    rcases Nat.eq_zero_or_pos bs.length with h0 | h0
    · exact h0
    · obtain ⟨ad, h, _⟩ := h.1.2.2.2 h0
      cases h
   obtain rfl := List.eq_nil_of_length_eq_zero hl
   clear hl
   go_enter Tryz.func83, Tryz.ntmps83
   go_wp2
   go_ret
   exact ⟨none, 0, rfl, RB.nil_ _ _, Below.refl _ _⟩
 · have h' : RS (w.alloc (.cells #[] 5)) P 1 (some ad) bs.length c (bys bs) := h.1.keep fun p hp => World.cell?_alloc_lt w _ p (hP _ hp)
   clear h
   go_enter Tryz.func83, Tryz.ntmps83
   go_wp2_with (at_builtin; refine wpList_append_rs _ rfl _ _ 33 rfl w.heap.size 5 i0 (.int .u8 0) 1 1 Tryz.underlying33 hi hz0 hz1 hz2 rfl (by decide) _ _ _ rfl (World.ownsRow_made w #[] 0 (Nat.le_refl _) (Nat.zero_le _) rfl) P (some ad) bs.length c (bys bs) rfl h' (by intro u hu; obtain ⟨x, _, rfl⟩ := List.mem_map.1 hu; rfl) bs.length (by omega) (by unfold maxLen; omega) (by omega) (by simp) ?_)
   intro A' c' w1 hown hgrow _
   go_wp2
   go_ret
   exact ⟨A', c', rfl, ⟨RS.of_own (by simpa using hown), hc0, h3⟩, ((Below.refl _ w).alloc (Nat.le_refl _) _).grown hgrow (by simp) (by intro k hk; simp [Value.ownBlock] at hk; omega)⟩
theorem info_node : (Tryz.prog.info? 172).map (fun i => (i.zero, i.size, i.bytes)) = some (some (.agg #[.int .i64 0, .slice none 0 0, .slice none 0 0]), 3, 56) := by kernel_rfl
end Go.Proofs.YtendnkpiidhogaaGreat.Der

namespace Go.Proofs.YtendnkpiidhogaaGreat.Der
open Go.RowKit Go.Shelf

attribute [local go_sem] Oper.semAt_some

def NodeP (R : Option (DN × List Nat × Nat)) (P : Nat → Prop) (g s : Nat) (e : Ending) (w' : World) : Prop :=
  ∃ lf : Int, w'.heap[g]? = some (.cells #[.int .i64 lf] 241 (0, 0)) ∧
    match R with
    | none => ∃ x B1 n1 d1 B2 n2 d2 v2, e = .returned (.tuple #[.agg #[.int .i64 x, .slice B1 n1 d1, .slice B2 n2 d2], v2, .bool false])
    | some (t, r, l) => lf = (l : Int) ∧ ∃ v A c, e = .returned (.tuple #[v, .slice A r.length c, .bool true]) ∧ RD w' (In s w'.heap.size) t v ∧ RB w' P A c r
theorem nodeP_none {P : Nat → Prop} {g s n1 d1 n2 d2 : Nat} {lf x : Int} {B1 B2 : Option Addr} {v2 : Value} {w' : World} (h : w'.heap[g]? = some (.cells #[.int .i64 lf] 241 (0, 0))) : NodeP none P g s (.returned (.tuple #[.agg #[.int .i64 x, .slice B1 n1 d1, .slice B2 n2 d2], v2, .bool false])) w' := ⟨lf, h, x, B1, n1, d1, B2, n2, d2, v2, rfl⟩
theorem gone3 {w : World} {g s : Nat} {o : Obj} (h : w.heap[g]? = some o) (hn : g ≠ s) (u v x : Value) : (((w.setCell ⟨s, 0, none⟩ u).setCell ⟨s, 1, none⟩ v).setCell ⟨s, 2, none⟩ x).heap[g]? = some o :=
 (Below.heap_setCell _ _ _ _ hn).trans ((Below.heap_setCell _ _ _ _ hn).trans ((Below.heap_setCell _ _ _ _ hn).trans h))

set_option maxRecDepth 100000 in
set_option maxHeartbeats 4000000 in
theorem node_stop (z n : Int) (g : Nat) (P : Nat → Prop) (A : Option Addr) (c N : Nat) (w : World) (hz : n = 0 ∨ z = 16) (hn : 0 ≤ n ∧ n ≤ 1024) (h : w.heap[g]? = some (.cells #[.int .i64 n] 241 (0, 0))) :
 Calls Tryz.prog 218 #[.pointer (some ⟨g, 0, none⟩), .slice A N c, .int .i64 z] w fun e w' => NodeP none P g w.heap.size e w' ∧ Bb w.heap.size g w w' := by
 have hg := blk_lt h
 have x0 := (Below.heap_alloc w (.cells #[.int .i64 0, .slice none 0 0, .slice none 0 0] 172) g hg).trans h
 have y0 := blk_cell x0 0
 have f0 := blk_free x0 0
 simp at y0
 have x1 := bset x0 0 (.int .i64 (n - 1))
 have hr := heap_alloc_new w (.cells #[.int .i64 0, .slice none 0 0, .slice none 0 0] 172)
 have hr1 := (Below.heap_setCell (w.alloc (.cells #[.int .i64 0, .slice none 0 0, .slice none 0 0] 172)) ⟨g, 0, none⟩ (.int .i64 (n - 1)) w.heap.size (Nat.ne_of_gt hg)).trans hr
 have hB0 : Bb w.heap.size g w ((w.alloc (.cells #[.int .i64 0, .slice none 0 0, .slice none 0 0] 172)).setCell ⟨g, 0, none⟩ (.int .i64 (n - 1))) := ((Bb.refl w.heap.size g w).alloc (Nat.le_refl _) _).set 0 _
 have HB0 := Lib.hid hB0
 have Hr := Lib.hid hr1
 have Hx1 : Hid (((w.alloc (.cells #[.int .i64 0, .slice none 0 0, .slice none 0 0] 172)).setCell ⟨g, 0, none⟩ (.int .i64 (n - 1))).heap[g]? = some (.cells #[.int .i64 (n - 1)] 241 (0, 0))) := Lib.hid (by simpa using x1)
 have Hsz : Hid (((w.alloc (.cells #[.int .i64 0, .slice none 0 0, .slice none 0 0] 172)).setCell ⟨g, 0, none⟩ (.int .i64 (n - 1))).heap.size = w.heap.size + 1) := Lib.hid (by simp [World.setCell])
 obtain ⟨s, hs⟩ : ∃ s, w.heap.size = s := ⟨_, rfl⟩
 rw [hs] at Hr HB0 Hsz hg ⊢
 have Hs := Lib.hid hs
 clear x0 x1 h hr hr1 hB0 hs
 have z0 := blk_cell Hx1.out 0
 simp at z0
 by_cases h0 : n - 1 < 0
 · go_enter Tryz.func218, Tryz.ntmps218
   go_wp2
   go_step3
   go_upto_region 3 with fail
   rw [Hs.out]
   generalize (w.alloc (.cells #[.int .i64 0, .slice none 0 0, .slice none 0 0] 172)).setCell ⟨g, 0, none⟩ (.int .i64 (n - 1)) = W1 at *
   have q0 := blk_cell Hr.out 0
   have q1 := blk_cell Hr.out 1
   have q2 := blk_cell Hr.out 2
   have p0 := blk_free Hr.out 0
   have p1 := blk_free Hr.out 1
   have p2 := blk_free Hr.out 2
   simp only [List.getElem?_toArray, List.getElem?_cons_zero, List.getElem?_cons_succ] at q0 q1 q2
   go_wp2
   have r := set3 Hr.out (.int .i64 0) (.slice none 0 0) (.slice none 0 0)
   have r0 := blk_cell r 0
   have r1 := blk_cell r 1
   have r2 := blk_cell r 2
   simp only [List.getElem?_toArray, List.getElem?_cons_zero, List.getElem?_cons_succ] at r0 r1 r2
   rw [Exit.noGoto_ret]
   refine bodyPost_ret (v := .tuple #[.agg #[.int .i64 0, .slice none 0 0, .slice none 0 0], .slice none 0 0, .bool false]) (by simp [results, Tryz.results218, go_sem, r0, r1, r2]) rfl ⟨nodeP_none (gone3 Hx1.out (by omega) _ _ _), ?_⟩
   exact ((HB0.out.setCell (p := ⟨s, 0, none⟩) (Nat.le_refl _) _).setCell (p := ⟨s, 1, none⟩) (Nat.le_refl _) _).setCell (p := ⟨s, 2, none⟩) (Nat.le_refl _) _
 · have hz16 : z = 16 := by omega
   subst hz16
   go_enter Tryz.func218, Tryz.ntmps218
   go_wp2
   go_step3
   go_upto_region 3 with fail
   rw [Hs.out]
   generalize (w.alloc (.cells #[.int .i64 0, .slice none 0 0, .slice none 0 0] 172)).setCell ⟨g, 0, none⟩ (.int .i64 (n - 1)) = W1 at *
   have q0 := blk_cell Hr.out 0
   have q1 := blk_cell Hr.out 1
   have q2 := blk_cell Hr.out 2
   have p0 := blk_free Hr.out 0
   have p1 := blk_free Hr.out 1
   have p2 := blk_free Hr.out 2
   simp only [List.getElem?_toArray, List.getElem?_cons_zero, List.getElem?_cons_succ] at q0 q1 q2
   go_wp2
   have r := set3 Hr.out (.int .i64 0) (.slice none 0 0) (.slice none 0 0)
   have r0 := blk_cell r 0
   have r1 := blk_cell r 1
   have r2 := blk_cell r 2
   simp only [List.getElem?_toArray, List.getElem?_cons_zero, List.getElem?_cons_succ] at r0 r1 r2
   rw [Exit.noGoto_ret]
   refine bodyPost_ret (v := .tuple #[.agg #[.int .i64 0, .slice none 0 0, .slice none 0 0], .slice none 0 0, .bool false]) (by simp [results, Tryz.results218, go_sem, r0, r1, r2]) rfl ⟨nodeP_none (gone3 Hx1.out (by omega) _ _ _), ?_⟩
   exact ((HB0.out.setCell (p := ⟨s, 0, none⟩) (Nat.le_refl _) _).setCell (p := ⟨s, 1, none⟩) (Nat.le_refl _) _).setCell (p := ⟨s, 2, none⟩) (Nat.le_refl _) _
end Go.Proofs.YtendnkpiidhogaaGreat.Der

namespace Go.Proofs.YtendnkpiidhogaaGreat.Der
open Go.RowKit Go.Shelf

attribute [local go_sem] Oper.semAt_some

def lenV : Value → Nat
 | .slice _ n _ => n
 | _ => 0
theorem own_at {w w' : World} {base size n : Nat} {e : TypeId} {v : Value} {xs : List Value} (h : w.ownsRow base e size v n xs) (hk : ∀ k, base ≤ k → k < w.heap.size → w'.heap[k]? = w.heap[k]?) : w'.ownsRow base e size v n xs := by
 obtain ⟨h1, h2⟩ := h
 refine ⟨h1, ?_⟩
 rcases h2 with h2 | ⟨g, cap, cur, e1, hg, hh, r⟩
 · exact .inl h2
 · exact .inr ⟨g, cap, cur, e1, hg, (hk g hg (blk_lt hh)).trans hh, r⟩
theorem own_lt {w : World} {base size n : Nat} {e : TypeId} {v : Value} {xs : List Value} (h : w.ownsRow base e size v n xs) {q : Nat} (hq : v.ownBlock = some q) : base ≤ q ∧ q < w.heap.size := by
 rcases h.2 with ⟨rfl, -⟩ | ⟨g, cap, cur, rfl, hg, hh, -⟩
 · cases hq
 · simp [Value.ownBlock] at hq
   subst hq
   exact ⟨hg, blk_lt hh⟩
def Vp (b : Nat) (w : World) (v : Value) (q : Nat) : Prop := b < q ∧ q < w.heap.size ∧ some q ≠ v.ownBlock
theorem kidsOn_nil {rd : Nat → List Nat → Option (DN × List Nat × Nat)} {f left : Nat} {acc : List DN} : kidsOn rd f left acc [] = some (acc, left) := by
 cases f <;> simp [kidsOn]
theorem kidsOn_no {rd : Nat → List Nat → Option (DN × List Nat × Nat)} {f left : Nat} {acc : List DN} {b : List Nat} (hb : b ≠ []) (h : rd left b = none) : kidsOn rd f left acc b = none := by
 cases f <;> simp [kidsOn, hb, h]
theorem kidsOn_yes {rd : Nat → List Nat → Option (DN × List Nat × Nat)} {f left l : Nat} {acc : List DN} {b r : List Nat} {k : DN} (hb : b ≠ []) (h : rd left b = some (k, r, l)) : kidsOn rd (f + 1) left acc b = kidsOn rd f l (acc ++ [k]) r := by
 rw [kidsOn, if_neg hb, h]
theorem node_bad {d left : Nat} {b : List Nat} (h0 : left ≠ 0) (h : headOf b = none) : nodeOf (d + 1) left b = none := by rw [nodeOf, if_neg h0, h]
theorem node_leaf {d left t : Nat} {b h r : List Nat} (h0 : left ≠ 0) (hh : headOf b = some (t, h, r)) (ht : t ≠ 48) : nodeOf (d + 1) left b = if plainOf t h then some (.mk t h [], r, left - 1) else none := by
 rw [nodeOf, if_neg h0, hh]
 show (if t ≠ 48 then _ else _) = _
 rw [if_pos ht]
def seqR (r : List Nat) : Option (List DN × Nat) → Option (DN × List Nat × Nat)
 | none => none
 | some (ks, l) => some (.mk 48 [] ks, r, l)
theorem node_seq {d left : Nat} {b h r : List Nat} (h0 : left ≠ 0) (hh : headOf b = some (48, h, r)) : nodeOf (d + 1) left b = seqR r (kidsOn (nodeOf d) h.length (left - 1) [] h) := by
 rw [nodeOf, if_neg h0, hh]
 show (if 48 ≠ 48 then _ else _) = _
 rw [if_neg (by omega)]
 generalize kidsOn (nodeOf d) h.length (left - 1) [] h = K
 cases K <;> rfl
theorem seqP {P : Nat → Prop} {g s sn : Nat} {w w' : World} {l : Nat} {Ak A2 : Option Addr} {ck c2 : Nat} {acc : List DN} {cs : List Value} {r : List Nat} (hg : w'.heap[g]? = some (.cells #[.int .i64 (l : Int)] 241 (0, 0))) (hs : s < sn) (hsz : w'.heap.size = w.heap.size) (hk : ∀ q, q ≠ s → w'.heap[q]? = w.heap[q]?) (hown : w.ownsRow (sn + 1) 172 3 (.slice Ak acc.length ck) acc.length cs) (hds : RDs w (Vp sn w (.slice Ak acc.length ck)) acc cs) (h2 : RB w P A2 c2 r) (hP : ∀ q, P q → q < s) :
 NodeP (seqR r (some (acc, l))) P g s (.returned (.tuple #[.agg #[.int .i64 48, .slice none 0 0, .slice Ak acc.length ck], .slice A2 r.length c2, .bool true])) w' := by
 refine ⟨_, hg, rfl, _, A2, c2, rfl, ?_, h2.keep fun p hp => World.cell?_of_block (hk _ (by have := hP _ hp; omega))⟩
 unfold RD
 refine ⟨none, 0, Ak, ck, cs, rfl, RB.nil_ _ _, fun _ => ⟨rfl, rfl⟩, ((RS.of_own hown).keep fun p hp => World.cell?_of_block (hk _ (by have := hp.1; omega))).mono fun q hq => ?_, RDs.mono (fun q hq => ?_) (RDs.keep (fun p hp => World.cell?_of_block (hk _ (by have := hp.1; omega))) hds)⟩
 · obtain ⟨q1, q2⟩ := hq
   exact ⟨by omega, by omega⟩
 · obtain ⟨q1, q2, -⟩ := hq
   exact ⟨by omega, by omega⟩
theorem leafP {P : Nat → Prop} {g s sz : Nat} {w w' : World} {t l : Nat} {A3 A2 : Option Addr} {c3 c2 : Nat} {h r : List Nat} {b : Bool} (ht : t ≠ 48) (hg : w'.heap[g]? = some (.cells #[.int .i64 (l : Int)] 241 (0, 0))) (h3 : RB w (In sz w.heap.size) A3 c3 h) (hs : s < sz) (hsz : w'.heap.size = w.heap.size) (hk : ∀ q, q ≠ s → w'.heap[q]? = w.heap[q]?) (h2 : RB w' P A2 c2 r) :
 NodeP (if b then some (.mk t h [], r, l) else none) P g s (.returned (.tuple #[.agg #[.int .i64 (t : Int), .slice A3 h.length c3, .slice none 0 0], .slice A2 r.length c2, .bool b])) w' := by
 cases b
 · exact nodeP_none hg
 · refine ⟨_, hg, rfl, _, A2, c2, rfl, ?_, h2⟩
   unfold RD
   refine ⟨A3, c3, none, 0, [], rfl, (h3.keep fun p hp => World.cell?_of_block (hk _ (by have := hp.1; omega))).mono fun q hq => ?_, fun e => absurd e ht, RS.nil_ _ _ _, by unfold RDs; rfl⟩
   obtain ⟨q1, q2⟩ := hq
   exact ⟨by omega, by omega⟩

set_option maxRecDepth 100000 in
set_option maxHeartbeats 8000000 in
theorem node_any (d : Nat) : ∀ (z : Int) (left g : Nat) (P : Nat → Prop) (A : Option Addr) (c : Nat) (b : List Nat) (w : World), 0 ≤ z → z + d = 16 → left ≤ 1024 → w.heap[g]? = some (.cells #[.int .i64 left] 241 (0, 0)) → RB w P A c b → (∀ q, P q → q < w.heap.size ∧ q ≠ g) →
    Calls Tryz.prog 218 #[.pointer (some ⟨g, 0, none⟩), .slice A b.length c, .int .i64 z] w fun e w' => NodeP (nodeOf d left b) P g w.heap.size e w' ∧ Bb w.heap.size g w w' := by
  induction d with
  | zero =>
    intro z left g P A c b w hz0 hz hl h hb hP
    rw [show nodeOf 0 left b = none by simp [nodeOf]]
    exact node_stop z left g P A c b.length w (.inr (by omega)) ⟨by omega, by omega⟩ h
  | succ d ih =>
  intro z left g P A c b w hz0 hz hl h hb hP
  by_cases h0 : left = 0
  · rw [show nodeOf (d + 1) left b = none by rw [nodeOf, if_pos h0]]
    exact node_stop z left g P A c b.length w (.inl (by omega)) ⟨by omega, by omega⟩ h
  obtain ⟨R, hR⟩ : ∃ R, nodeOf (d + 1) left b = R := ⟨_, rfl⟩
  rw [hR]
  have HR := Lib.hid hR
  have H0 := Lib.hid h0
  obtain ⟨n, hn⟩ : ∃ n : Int, (left : Int) = n := ⟨_, rfl⟩
  rw [hn] at h
  have hn0 : 0 < n := by omega
  have hn1 : n ≤ 1024 := by omega
  have HN := Lib.hid (show n - 1 = ((left - 1 : Nat) : Int) by omega)
  have Hl := Lib.hid hl
  have hz1 : z < 16 := by omega
  have HZ := Lib.hid (show z + 1 + (d : Int) = 16 by push_cast at hz; omega)
  have HP := Lib.hid hP
  have Hb := Lib.hid hb
  clear hR h0 hn hl hz hb hP
  have hg := blk_lt h
  have x0 := (Below.heap_alloc w (.cells #[.int .i64 0, .slice none 0 0, .slice none 0 0] 172) g hg).trans h
  have y0 := blk_cell x0 0
  have f0 := blk_free x0 0
  simp at y0
  have x1 := bset x0 0 (.int .i64 (n - 1))
  have hr := heap_alloc_new w (.cells #[.int .i64 0, .slice none 0 0, .slice none 0 0] 172)
  have hr1 := (Below.heap_setCell (w.alloc (.cells #[.int .i64 0, .slice none 0 0, .slice none 0 0] 172)) ⟨g, 0, none⟩ (.int .i64 (n - 1)) w.heap.size (Nat.ne_of_gt hg)).trans hr
  have hB0 : Bb w.heap.size g w ((w.alloc (.cells #[.int .i64 0, .slice none 0 0, .slice none 0 0] 172)).setCell ⟨g, 0, none⟩ (.int .i64 (n - 1))) := ((Bb.refl w.heap.size g w).alloc (Nat.le_refl _) _).set 0 _
  have HB0 := Lib.hid hB0
  have Hr := Lib.hid hr1
  have Hx1 : Hid (((w.alloc (.cells #[.int .i64 0, .slice none 0 0, .slice none 0 0] 172)).setCell ⟨g, 0, none⟩ (.int .i64 (n - 1))).heap[g]? = some (.cells #[.int .i64 (n - 1)] 241 (0, 0))) := Lib.hid (by simpa using x1)
  have Hsz : Hid (((w.alloc (.cells #[.int .i64 0, .slice none 0 0, .slice none 0 0] 172)).setCell ⟨g, 0, none⟩ (.int .i64 (n - 1))).heap.size = w.heap.size + 1) := Lib.hid (by simp [World.setCell])
  obtain ⟨s, hs⟩ : ∃ s, w.heap.size = s := ⟨_, rfl⟩
  rw [hs] at Hr HB0 Hsz hg ⊢
  have Hs := Lib.hid hs
  clear x0 x1 h hr hr1 hB0 hs
  have z0 := blk_cell Hx1.out 0
  simp at z0
  have hk1 : ¬ n - 1 < 0 := by omega
  have hk2 : ¬ 16 ≤ z := by omega
  go_enter Tryz.func218, Tryz.ntmps218
  go_wp2
  go_step3
  go_upto_region 3 with fail
  clear z0 f0 y0
  rw [Hs.out]
  generalize (w.alloc (.cells #[.int .i64 0, .slice none 0 0, .slice none 0 0] 172)).setCell ⟨g, 0, none⟩ (.int .i64 (n - 1)) = W1 at *
  have Hb1 := Lib.hid (Bb.rb Hb.out HB0.out (fun q hq => ⟨by have := (HP.out q hq).1; have := Hs.out; omega, (HP.out q hq).2⟩))
  have hP1 : ∀ q, P q → q < W1.heap.size := fun q hq => by have := (HP.out q hq).1; have := Hs.out; have := Hsz.out; omega
  have HP1 := Lib.hid hP1
  have HHd := Lib.hid (head_any P A c b W1 Hb1.out hP1)
  clear hP1
  go_wp2_with fail
  refine HHd.out.mono ?_
  obtain ⟨R0, hR0⟩ : ∃ R0, headOf b = R0 := ⟨_, rfl⟩
  rw [hR0]
  have HR0 := Lib.hid hR0
  clear hR0 HHd
  rintro e w2 ⟨hH, hB2⟩
  have Hr2 := Lib.hid ((hB2.block s (by have := Hsz.out; omega)).trans Hr.out)
  have Hx2 := Lib.hid ((hB2.block g (by have := Hsz.out; omega)).trans Hx1.out)
  have hB2' := HB0.out.trans (below_bb (hB2.mono (show s ≤ W1.heap.size by have := Hsz.out; omega)) g)
  have HB2 := Lib.hid hB2'
  have Hsz2 := Lib.hid (show s < w2.heap.size by have := hB2.size; have := Hsz.out; omega)
  have HP2 := Lib.hid (show ∀ q, P q → q < w2.heap.size ∧ q ≠ g from fun q hq => ⟨by have := HP1.out q hq; have := hB2.size; omega, (HP.out q hq).2⟩)
  have HPs := Lib.hid (show ∀ q, P q → q < s ∧ q ≠ g from fun q hq => ⟨by have := (HP.out q hq).1; have := Hs.out; omega, (HP.out q hq).2⟩)
  clear hB2 hB2' Hr Hx1 HB0 Hsz HP1 HP Hb Hb1
  cases R0 with
  | none =>
    unfold HeadP at hH
    subst hH
    have hR : R = none := HR.out.symm.trans (node_bad H0.out HR0.out)
    subst hR
    go_upto_region 6 with fail
    have q0 := blk_cell Hr2.out 0
    have q1 := blk_cell Hr2.out 1
    have q2 := blk_cell Hr2.out 2
    have p0 := blk_free Hr2.out 0
    have p1 := blk_free Hr2.out 1
    have p2 := blk_free Hr2.out 2
    simp only [List.getElem?_toArray, List.getElem?_cons_zero, List.getElem?_cons_succ] at q0 q1 q2
    go_wp2
    have r := set3 Hr2.out (.int .i64 0) (.slice none 0 0) (.slice none 0 0)
    have r0 := blk_cell r 0
    have r1 := blk_cell r 1
    have r2 := blk_cell r 2
    simp only [List.getElem?_toArray, List.getElem?_cons_zero, List.getElem?_cons_succ] at r0 r1 r2
    rw [Exit.noGoto_ret]
    refine bodyPost_ret (v := .tuple #[.agg #[.int .i64 0, .slice none 0 0, .slice none 0 0], .slice none 0 0, .bool false]) (by simp [results, Tryz.results218, go_sem, r0, r1, r2]) rfl ⟨nodeP_none (gone3 Hx2.out (by omega) _ _ _), ?_⟩
    exact ((HB2.out.setCell (p := ⟨s, 0, none⟩) (Nat.le_refl _) _).setCell (p := ⟨s, 1, none⟩) (Nat.le_refl _) _).setCell (p := ⟨s, 2, none⟩) (Nat.le_refl _) _
  | some q =>
    obtain ⟨t, h, r⟩ := q
    unfold HeadP at hH
    obtain ⟨A1, c1, A2, c2, rfl, h1, h2, ht⟩ := hH
    have H1 := Lib.hid h1
    have H2 := Lib.hid h2
    clear h1 h2
    by_cases h48 : t = 48
    rotate_left
    · have h48' : ((t : Int) == 48) = false := beq_eq_false_iff_ne.2 (by omega)
      have hR : R = if plainOf t h then some (.mk t h [], r, left - 1) else none := HR.out.symm.trans (node_leaf H0.out HR0.out h48)
      obtain ⟨pb, hpb⟩ : ∃ pb, plainOf t h = pb := ⟨_, rfl⟩
      rw [hpb] at hR
      subst hR
      have HPb := Lib.hid hpb
      have H48 := Lib.hid h48
      clear hpb h48 HR HR0
      go_upto_region 8 with fail
      go_wp2_with fail
      refine (bclone_any P A1 c1 h w2 H1.out (fun q hq => (HP2.out q hq).1)).mono ?_
      rintro e w3 ⟨A3, c3, rfl, hr3, hB3⟩
      have Hr3 := Lib.hid hr3
      have HB3 := Lib.hid hB3
      have HPl := Lib.hid (plain_any P A1 c1 t h w3 (H1.out.below hB3 (fun q hq => (HP2.out q hq).1)))
      rw [HPb.out] at HPl
      clear hr3 hB3
      go_wp2_with fail
      refine HPl.out.mono ?_
      rintro e w4 ⟨rfl, d4, rfl⟩
      have HB4 := Lib.hid (below_drewN HB3.out d4)
      have Hr4 := Lib.hid (Hr3.out.keep (w' := w3.drewN d4) fun _ _ => rfl)
      have hsz4 : (w3.drewN d4).heap.size = w3.heap.size := rfl
      rw [← hsz4] at Hr4
      clear hsz4 Hr3 HB3 HPl
      generalize w3.drewN d4 = W4 at *
      have Hq4 := Lib.hid ((HB4.out.block s Hsz2.out).trans Hr2.out)
      have Hx4 := Lib.hid ((HB4.out.block g (by have := Hsz2.out; omega)).trans Hx2.out)
      have H24 := Lib.hid (H2.out.below HB4.out (fun q hq => (HP2.out q hq).1))
      have HB5 := Lib.hid (HB2.out.trans (below_bb (HB4.out.mono (Nat.le_of_lt Hsz2.out)) g))
      have q0 := blk_cell Hq4.out 0
      have q1 := blk_cell Hq4.out 1
      have q2 := blk_cell Hq4.out 2
      have p0 := blk_free Hq4.out 0
      have p1 := blk_free Hq4.out 1
      have p2 := blk_free Hq4.out 2
      simp only [List.getElem?_toArray, List.getElem?_cons_zero, List.getElem?_cons_succ] at q0 q1 q2
      go_wp2
      have r' := set3 Hq4.out (.int .i64 (t : Int)) (.slice A3 h.length c3) (.slice none 0 0)
      have r0 := blk_cell r' 0
      have r1 := blk_cell r' 1
      have r2 := blk_cell r' 2
      simp only [List.getElem?_toArray, List.getElem?_cons_zero, List.getElem?_cons_succ] at r0 r1 r2
      rw [Exit.noGoto_ret]
      refine bodyPost_ret (v := .tuple #[.agg #[.int .i64 (t : Int), .slice A3 h.length c3, .slice none 0 0], .slice A2 r.length c2, .bool pb]) (by simp [results, Tryz.results218, go_sem, r0, r1, r2]) rfl ⟨?_, ?_⟩
      · refine leafP (w := W4) (sz := w2.heap.size) H48.out ?_ Hr4.out Hsz2.out (by simp [World.setCell]) (fun q hq => ?_) ?_
        · rw [← HN.out]; exact gone3 Hx4.out (by omega) _ _ _
        · exact (Below.heap_setCell _ _ _ _ hq).trans ((Below.heap_setCell _ _ _ _ hq).trans (Below.heap_setCell _ _ _ _ hq))
        · exact H24.out.keep fun p hp => World.cell?_of_block (by
            have hq : p.block ≠ s := by have := (HPs.out _ hp).1; omega
            exact (Below.heap_setCell _ _ _ _ hq).trans ((Below.heap_setCell _ _ _ _ hq).trans (Below.heap_setCell _ _ _ _ hq)))
      · exact ((HB5.out.setCell (p := ⟨s, 0, none⟩) (Nat.le_refl _) _).setCell (p := ⟨s, 1, none⟩) (Nat.le_refl _) _).setCell (p := ⟨s, 2, none⟩) (Nat.le_refl _) _
    subst h48
    have hR : R = seqR r (kidsOn (nodeOf d) h.length (left - 1) [] h) := HR.out.symm.trans (node_seq H0.out HR0.out)
    obtain ⟨RK, hRK⟩ : ∃ RK, kidsOn (nodeOf d) h.length (left - 1) [] h = RK := ⟨_, rfl⟩
    rw [hRK] at hR
    subst hR
    have HRK := Lib.hid hRK
    clear hRK HR HR0
    have ht48 : ((48 : Nat) : Int) = 48 := rfl
    rw [ht48]
    clear ht48
    obtain ⟨sn, hsn⟩ : ∃ sn, w2.heap.size = sn := ⟨_, rfl⟩
    rw [hsn] at Hsz2 HP2
    have hn3 := heap_alloc_new w2 (.cells #[.int .i64 48, .slice none 0 0, .slice none 0 0] 172)
    rw [hsn] at hn3
    have hB3 : Below sn w2 (w2.alloc (.cells #[.int .i64 48, .slice none 0 0, .slice none 0 0] 172)) := (Below.refl sn w2).alloc (by omega) _
    have hz3 : (w2.alloc (.cells #[.int .i64 48, .slice none 0 0, .slice none 0 0] 172)).heap.size = sn + 1 := by simp; exact hsn
    have HB3 := Lib.hid hB3
    have Hn3 := Lib.hid hn3
    have Hz3 := Lib.hid hz3
    have Hsn := Lib.hid hsn
    clear hn3 hB3 hz3 hsn
    go_upto_region 10 with fail
    rw [Hsn.out]
    generalize w2.alloc (.cells #[.int .i64 48, .slice none 0 0, .slice none 0 0] 172) = W3 at *
    have Hx3 := Lib.hid ((HB3.out.block g (by have := Hsz2.out; omega)).trans Hx2.out)
    rw [HN.out] at Hx3
    have Hr3 := Lib.hid ((HB3.out.block s Hsz2.out).trans Hr2.out)
    have H13 := Lib.hid (H1.out.below HB3.out (fun q hq => (HP2.out q hq).1))
    have H23 := Lib.hid (H2.out.below HB3.out (fun q hq => (HP2.out q hq).1))
    have HB4 := Lib.hid (HB2.out.trans (below_bb (HB3.out.mono (Nat.le_of_lt Hsz2.out)) g))
    have H20 := Lib.hid (H2.out.keep (w' := w) fun p hp => (HB2.out.cell (HPs.out _ hp).1 (HPs.out _ hp).2).symm)
    have Hl2 := Lib.hid (show left - 1 + 0 ≤ 1024 by have := Hl.out; omega)
    clear HB2 Hx2 Hr2 H1 H2 Hsn HP2 HB3
    go_step3
    go_wp2
    go_loopw [10] (fun v wr => ∃ (h' : List Nat) (A' : Option Addr) (c' : Nat) (acc : List DN) (lf f : Nat) (Ak : Option Addr) (ck : Nat) (cs : List Value), v = .slice A' h'.length c' ∧ RB wr P A' c' h' ∧ wr.heap[g]? = some (.cells #[.int .i64 (lf : Int)] 241 (0, 0)) ∧ wr.heap[s]? = some (.cells #[.int .i64 0, .slice none 0 0, .slice none 0 0] 172 (0, 0)) ∧ wr.heap[sn]? = some (.cells #[.int .i64 48, .slice none 0 0, .slice Ak acc.length ck] 172 (0, 0)) ∧ wr.ownsRow (sn + 1) 172 3 (.slice Ak acc.length ck) acc.length cs ∧ RDs wr (Vp sn wr (.slice Ak acc.length ck)) acc cs ∧ h'.length ≤ f ∧ kidsOn (nodeOf d) f lf acc h' = RK ∧ lf + acc.length ≤ 1024 ∧ Bb s g w wr ∧ sn + 1 ≤ wr.heap.size) (fun v _ => lenV v)
    case atStart =>
      exact ⟨h, A1, c1, [], left - 1, h.length, none, 0, [], rfl, H13.out, Hx3.out, Hr3.out, Hn3.out, World.ownsRow_nil _ _ _ _, by unfold RDs; rfl, Nat.le_refl _, HRK.out, Hl2.out, HB4.out, Nat.le_of_eq Hz3.out.symm⟩
    case round =>
      obtain ⟨h', A', c', acc, lf, f, Ak, ck, cs, rfl, hb', hx', hr', hn', hown, hds, hf, hK, hla, hB, hsz⟩ := hrel
      have Hb' := Lib.hid hb'
      have Hx' := Lib.hid hx'
      have Hr' := Lib.hid hr'
      have Hn' := Lib.hid hn'
      have Hown := Lib.hid hown
      have Hds := Lib.hid hds
      have Hf := Lib.hid hf
      have HK := Lib.hid hK
      have Hla := Lib.hid hla
      have HB := Lib.hid hB
      have Hsz' := Lib.hid hsz
      clear hb' hx' hr' hn' hown hds hf hK hla hB hsz H13 Hx3 Hr3 Hn3 HRK HB4 Hz3
      by_cases he : h' = []
      · subst he
        have hK := HK.out
        rw [kidsOn_nil] at hK
        subst hK
        have hlen : ([] : List Nat).length = 0 := rfl
        rw [hlen]
        have m0 := blk_cell Hn'.out 0
        have m1 := blk_cell Hn'.out 1
        have m2 := blk_cell Hn'.out 2
        simp only [List.getElem?_toArray, List.getElem?_cons_zero, List.getElem?_cons_succ] at m0 m1 m2
        have q0 := blk_cell Hr'.out 0
        have q1 := blk_cell Hr'.out 1
        have q2 := blk_cell Hr'.out 2
        have p0 := blk_free Hr'.out 0
        have p1 := blk_free Hr'.out 1
        have p2 := blk_free Hr'.out 2
        simp only [List.getElem?_toArray, List.getElem?_cons_zero, List.getElem?_cons_succ] at q0 q1 q2
        have hs2 := Hsz2.out
        have hg3 := gone3 Hx'.out (show g ≠ s by omega) (.int .i64 48) (.slice none 0 0) (.slice Ak acc.length ck)
        have Hg3 := Lib.hid hg3
        have r' := set3 Hr'.out (.int .i64 48) (.slice none 0 0) (.slice Ak acc.length ck)
        have H2r := Lib.hid (Bb.rb H20.out HB.out (fun q hq => HPs.out q hq))
        have Hr'' := Lib.hid r'
        clear hg3 r' hlen
        go_wp2
        have r' := Hr''.out
        have r0 := blk_cell r' 0
        have r1 := blk_cell r' 1
        have r2 := blk_cell r' 2
        simp only [List.getElem?_toArray, List.getElem?_cons_zero, List.getElem?_cons_succ] at r0 r1 r2
        rw [Exit.noGoto_ret]
        refine bodyPost_ret (v := .tuple #[.agg #[.int .i64 48, .slice none 0 0, .slice Ak acc.length ck], .slice A2 r.length c2, .bool true]) (by simp [results, Tryz.results218, go_sem, r0, r1, r2]) rfl ⟨?_, ?_⟩
        · exact seqP (w := wr) Hg3.out hs2 (by simp [World.setCell]) (fun q hq => (Below.heap_setCell _ _ _ _ hq).trans ((Below.heap_setCell _ _ _ _ hq).trans (Below.heap_setCell _ _ _ _ hq))) Hown.out Hds.out (H2r.out.keep fun _ _ => rfl) (fun q hq => (HPs.out q hq).1)
        · exact ((HB.out.setCell (p := ⟨s, 0, none⟩) (Nat.le_refl _) _).setCell (p := ⟨s, 1, none⟩) (Nat.le_refl _) _).setCell (p := ⟨s, 2, none⟩) (Nat.le_refl _) _
      have hpos : (0 : Int) < (h'.length : Int) := by
        have := List.length_pos_iff.2 he
        omega
      have He := Lib.hid he
      clear he
      obtain ⟨sk, hsk⟩ : ∃ sk, wr.heap.size = sk := ⟨_, rfl⟩
      have hk5 := heap_alloc_new wr (.cells #[.int .i64 0, .slice none 0 0, .slice none 0 0] 172)
      rw [hsk] at hk5
      have hB5 : Below sk wr (wr.alloc (.cells #[.int .i64 0, .slice none 0 0, .slice none 0 0] 172)) := (Below.refl sk wr).alloc (by omega) _
      have hz5 : (wr.alloc (.cells #[.int .i64 0, .slice none 0 0, .slice none 0 0] 172)).heap.size = sk + 1 := by simp; exact hsk
      have HB5 := Lib.hid hB5
      have Hk5 := Lib.hid hk5
      have Hz5 := Lib.hid hz5
      have Hsk := Lib.hid hsk
      have Hsk2 := Lib.hid (show sn + 1 ≤ sk by rw [← hsk]; exact Hsz'.out)
      clear hk5 hB5 hz5 hsk
      go_upto_region 12 with fail
      rw [Hsk.out]
      generalize wr.alloc (.cells #[.int .i64 0, .slice none 0 0, .slice none 0 0] 172) = W5 at *
      have Hx5 := Lib.hid ((HB5.out.block g (by have := Hsz2.out; have := Hsk2.out; omega)).trans Hx'.out)
      have Hr5 := Lib.hid ((HB5.out.block s (by have := Hsz2.out; have := Hsk2.out; omega)).trans Hr'.out)
      have Hn5 := Lib.hid ((HB5.out.block sn (by have := Hsk2.out; omega)).trans Hn'.out)
      have HP5 := Lib.hid (show ∀ q, P q → q < W5.heap.size ∧ q ≠ g from fun q hq => ⟨by have := (HPs.out q hq).1; have := Hz5.out; have := Hsk2.out; have := Hsz2.out; omega, (HPs.out q hq).2⟩)
      have Hb5 := Lib.hid (Hb'.out.keep (w' := W5) fun p hp => HB5.out.cell (by have := (HPs.out _ hp).1; have := Hsk2.out; have := Hsz2.out; omega))
      have HB6 := Lib.hid (HB.out.trans (below_bb (HB5.out.mono (show s ≤ sk by have := Hsk2.out; have := Hsz2.out; omega)) g))
      have IH := Lib.hid (ih (z + 1) lf g P A' c' h' W5 (by omega) HZ.out (by have := Hla.out; omega) Hx5.out Hb5.out HP5.out)
      clear Hx' Hr' Hn' Hb' HB
      go_wp2_with fail
      refine IH.out.mono ?_
      rintro e w6 ⟨⟨lf2, hx6, hM⟩, hB6⟩
      have hzz := Hz5.out
      have hss := Hsk2.out
      have hs2 := Hsz2.out
      have Hr6 := Lib.hid ((hB6.block s (by omega) (by omega)).trans Hr5.out)
      have Hn6 := Lib.hid ((hB6.block sn (by omega) (by omega)).trans Hn5.out)
      have Hk6 := Lib.hid ((hB6.block sk (by omega) (by omega)).trans Hk5.out)
      have HB7 := Lib.hid (HB6.out.trans (hB6.mono (show s ≤ W5.heap.size by omega)))
      have HB56 := Lib.hid hB6
      have Hx6 := Lib.hid hx6
      have Hz6 := Lib.hid (show sk < w6.heap.size by have := hB6.size; omega)
      clear hB6 hx6 hzz hss hs2 IH Hx5 Hr5 Hn5 Hb5 HB6
      have q0 := blk_cell Hk6.out 0
      have q1 := blk_cell Hk6.out 1
      have q2 := blk_cell Hk6.out 2
      have p0 := blk_free Hk6.out 0
      have p1 := blk_free Hk6.out 1
      have p2 := blk_free Hk6.out 2
      simp only [List.getElem?_toArray, List.getElem?_cons_zero, List.getElem?_cons_succ] at q0 q1 q2
      obtain ⟨R1, hR1⟩ : ∃ R1, nodeOf d lf h' = R1 := ⟨_, rfl⟩
      rw [hR1] at hM
      have HR1 := Lib.hid hR1
      clear hR1
      cases R1 with
      | none =>
        obtain ⟨xi, B1, n1, d1, B2, n2, d2, v2, rfl⟩ := hM
        have hRK : RK = none := HK.out.symm.trans (kidsOn_no He.out HR1.out)
        subst hRK
        go_upto_region 13 with fail
        have Hr7 := Lib.hid (gone3 Hr6.out (show s ≠ sk by have := Hsk2.out; have := Hsz2.out; omega) (.int .i64 xi) (.slice B1 n1 d1) (.slice B2 n2 d2))
        have Hx7 := Lib.hid (gone3 Hx6.out (show g ≠ sk by have := Hsk2.out; have := Hsz2.out; omega) (.int .i64 xi) (.slice B1 n1 d1) (.slice B2 n2 d2))
        have HB8 := Lib.hid (((HB7.out.setCell (p := ⟨sk, 0, none⟩) (by have := Hsk2.out; have := Hsz2.out; show s ≤ sk; omega) (.int .i64 xi)).setCell (p := ⟨sk, 1, none⟩) (by have := Hsk2.out; have := Hsz2.out; show s ≤ sk; omega) (.slice B1 n1 d1)).setCell (p := ⟨sk, 2, none⟩) (by have := Hsk2.out; have := Hsz2.out; show s ≤ sk; omega) (.slice B2 n2 d2))
        generalize ((w6.setCell ⟨sk, 0, none⟩ (.int .i64 xi)).setCell ⟨sk, 1, none⟩ (.slice B1 n1 d1)).setCell ⟨sk, 2, none⟩ (.slice B2 n2 d2) = W7 at *
        clear q0 q1 q2 p0 p1 p2
        have q0 := blk_cell Hr7.out 0
        have q1 := blk_cell Hr7.out 1
        have q2 := blk_cell Hr7.out 2
        have p0 := blk_free Hr7.out 0
        have p1 := blk_free Hr7.out 1
        have p2 := blk_free Hr7.out 2
        simp only [List.getElem?_toArray, List.getElem?_cons_zero, List.getElem?_cons_succ] at q0 q1 q2
        go_wp2
        have r := set3 Hr7.out (.int .i64 0) (.slice none 0 0) (.slice none 0 0)
        have r0 := blk_cell r 0
        have r1 := blk_cell r 1
        have r2 := blk_cell r 2
        simp only [List.getElem?_toArray, List.getElem?_cons_zero, List.getElem?_cons_succ] at r0 r1 r2
        rw [Exit.noGoto_ret]
        refine bodyPost_ret (v := .tuple #[.agg #[.int .i64 0, .slice none 0 0, .slice none 0 0], .slice none 0 0, .bool false]) (by simp [results, Tryz.results218, go_sem, r0, r1, r2]) rfl ⟨nodeP_none (gone3 Hx7.out (by have := Hsz2.out; omega) _ _ _), ?_⟩
        exact ((HB8.out.setCell (p := ⟨s, 0, none⟩) (Nat.le_refl _) _).setCell (p := ⟨s, 1, none⟩) (Nat.le_refl _) _).setCell (p := ⟨s, 2, none⟩) (Nat.le_refl _) _
      | some q =>
        obtain ⟨k, r', l'⟩ := q
        obtain ⟨rfl, v, A6, c6, rfl, hRD, hRB⟩ := hM
        obtain ⟨xi, B1, n1, d1, B2, n2, d2, rfl⟩ := hRD.shape
        cases f with
        | zero => exact absurd (List.eq_nil_of_length_eq_zero (by have := Hf.out; omega)) He.out
        | succ f =>
        have HK2 := Lib.hid ((kidsOn_yes He.out HR1.out).symm.trans HK.out)
        have Hf2 := Lib.hid (show r'.length ≤ f by have := node_len HR1.out; have := Hf.out; omega)
        have Hla2 := Lib.hid (show l' + (acc ++ [k]).length ≤ 1024 by rw [List.length_append]; simp; have := node_left HR1.out; have := Hla.out; omega)
        have Hal := Lib.hid (show acc.length ≤ 1024 by have := Hla.out; omega)
        have Hlen := Lib.hid (show lenV (.slice A6 r'.length c6) < lenV (.slice A' h'.length c') by have := node_len HR1.out; simp only [lenV]; omega)
        have hwr := Hsk.out
        have hzz := Hz5.out
        have hss := Hsk2.out
        have hs2 := Hsz2.out
        have hz6 := Hz6.out
        go_upto_region 13 with fail
        have Hk7 := Lib.hid (set3 Hk6.out (.int .i64 xi) (.slice B1 n1 d1) (.slice B2 n2 d2))
        have Hr7 := Lib.hid (gone3 Hr6.out (show s ≠ sk by omega) (.int .i64 xi) (.slice B1 n1 d1) (.slice B2 n2 d2))
        have Hx7 := Lib.hid (gone3 Hx6.out (show g ≠ sk by omega) (.int .i64 xi) (.slice B1 n1 d1) (.slice B2 n2 d2))
        have Hn7 := Lib.hid (gone3 Hn6.out (show sn ≠ sk by omega) (.int .i64 xi) (.slice B1 n1 d1) (.slice B2 n2 d2))
        have Hz7 := Lib.hid (show (((w6.setCell ⟨sk, 0, none⟩ (.int .i64 xi)).setCell ⟨sk, 1, none⟩ (.slice B1 n1 d1)).setCell ⟨sk, 2, none⟩ (.slice B2 n2 d2)).heap.size = w6.heap.size by simp [World.setCell])
        have hk7 : ∀ q, q ≠ sk → (((w6.setCell ⟨sk, 0, none⟩ (.int .i64 xi)).setCell ⟨sk, 1, none⟩ (.slice B1 n1 d1)).setCell ⟨sk, 2, none⟩ (.slice B2 n2 d2)).heap[q]? = w6.heap[q]? := fun q hq => (Below.heap_setCell _ _ _ _ hq).trans ((Below.heap_setCell _ _ _ _ hq).trans (Below.heap_setCell _ _ _ _ hq))
        have hk7' : ∀ q, q < sk → q ≠ g → (((w6.setCell ⟨sk, 0, none⟩ (.int .i64 xi)).setCell ⟨sk, 1, none⟩ (.slice B1 n1 d1)).setCell ⟨sk, 2, none⟩ (.slice B2 n2 d2)).heap[q]? = wr.heap[q]? := fun q hq hqg => (hk7 q (by omega)).trans ((HB56.out.block q (by omega) hqg).trans (HB5.out.block q hq))
        have HB8 := Lib.hid (((HB7.out.setCell (p := ⟨sk, 0, none⟩) (by show s ≤ sk; omega) (.int .i64 xi)).setCell (p := ⟨sk, 1, none⟩) (by show s ≤ sk; omega) (.slice B1 n1 d1)).setCell (p := ⟨sk, 2, none⟩) (by show s ≤ sk; omega) (.slice B2 n2 d2))
        have HRD7 := Lib.hid (RD.keep (w' := ((w6.setCell ⟨sk, 0, none⟩ (.int .i64 xi)).setCell ⟨sk, 1, none⟩ (.slice B1 n1 d1)).setCell ⟨sk, 2, none⟩ (.slice B2 n2 d2)) (fun p hp => World.cell?_of_block (hk7 _ (by have := hp.1; omega))) hRD)
        have HRB7 := Lib.hid (hRB.keep (w' := ((w6.setCell ⟨sk, 0, none⟩ (.int .i64 xi)).setCell ⟨sk, 1, none⟩ (.slice B1 n1 d1)).setCell ⟨sk, 2, none⟩ (.slice B2 n2 d2)) fun p hp => World.cell?_of_block (hk7 _ (by have := (HPs.out _ hp).1; omega)))
        have Hown7 := Lib.hid (own_at (w' := ((w6.setCell ⟨sk, 0, none⟩ (.int .i64 xi)).setCell ⟨sk, 1, none⟩ (.slice B1 n1 d1)).setCell ⟨sk, 2, none⟩ (.slice B2 n2 d2)) Hown.out fun q h1 h2 => hk7' q (by omega) (by omega))
        have Hds7 := Lib.hid (RDs.keep (w' := ((w6.setCell ⟨sk, 0, none⟩ (.int .i64 xi)).setCell ⟨sk, 1, none⟩ (.slice B1 n1 d1)).setCell ⟨sk, 2, none⟩ (.slice B2 n2 d2)) (fun p hp => World.cell?_of_block (hk7' _ (by have := hp.2.1; omega) (by have := hp.1; omega))) Hds.out)
        have Hlt := Lib.hid (fun q => own_lt (q := q) Hown.out)
        generalize ((w6.setCell ⟨sk, 0, none⟩ (.int .i64 xi)).setCell ⟨sk, 1, none⟩ (.slice B1 n1 d1)).setCell ⟨sk, 2, none⟩ (.slice B2 n2 d2) = W7 at *
        clear hk7 hk7' hRD hRB q0 q1 q2 p0 p1 p2 Hk6 Hr6 Hx6 Hn6 HB7 Hown Hds HK Hf Hla HB56 HB5 Hk5
        clear hwr hzz hss hs2 hz6
        go_upto_region 14 with fail
        have m2 := blk_cell Hn7.out 2
        have k0 := blk_cell Hk7.out 0
        have k1 := blk_cell Hk7.out 1
        have k2 := blk_cell Hk7.out 2
        simp only [List.getElem?_toArray, List.getElem?_cons_zero, List.getElem?_cons_succ] at m2 k0 k1 k2
        obtain ⟨i0, hi, hzr, hzs, hzb⟩ := info_parts info_node
        have Hz8 := Lib.hid (show (W7.alloc (.cells #[(.int .i64 xi), (.slice B1 n1 d1), (.slice B2 n2 d2)] 172)).heap.size = w6.heap.size + 1 by simp; exact Hz7.out)
        have hr8 := RS.fresh (w := W7) (P := fun _ => True) #[(.int .i64 xi), (.slice B1 n1 d1), (.slice B2 n2 d2)] 172 3 1 rfl (by unfold maxLen; omega) trivial
        have Hown8 := Lib.hid (own_at (w' := W7.alloc (.cells #[(.int .i64 xi), (.slice B1 n1 d1), (.slice B2 n2 d2)] 172)) Hown7.out fun q h1 h2 => Below.heap_alloc _ _ _ h2)
        have hb8 : ∀ q, q < W7.heap.size → (W7.alloc (.cells #[(.int .i64 xi), (.slice B1 n1 d1), (.slice B2 n2 d2)] 172)).heap[q]? = W7.heap[q]? := fun q hq => Below.heap_alloc _ _ _ hq
        have Hb8 := Lib.hid hb8
        have Hr8 := Lib.hid hr8
        clear hb8 hr8
        go_wp2_with (at_builtin; refine wpList_append_rs _ rfl _ _ 170 rfl (sn + 1) 172 i0 (.agg #[.int .i64 0, .slice none 0 0, .slice none 0 0]) 3 56 Tryz.underlying170 hi hzr hzs hzb rfl (by decide) _ _ _ rfl Hown8.out (fun _ => True) (some ⟨W7.heap.size, 0, none⟩) 1 1 [(.int .i64 xi), (.slice B1 n1 d1), (.slice B2 n2 d2)] rfl Hr8.out (by intro u hu; simp only [List.mem_cons, List.not_mem_nil, or_false] at hu; rcases hu with rfl | rfl | rfl <;> rfl) (acc.length + 1) rfl (by have := Hal.out; unfold maxLen; omega) (by have := Hal.out; omega) (by have := Hz8.out; have := Hz6.out; have := Hsk2.out; omega) ?_)
        intro A9 c9 w9 hown9 hgrow9 hor9
        have hss := Hsk2.out
        have hs2 := Hsz2.out
        have hz6 := Hz6.out
        have hz8 := Hz8.out
        have hwr := Hsk.out
        have hzz := Hz5.out
        have hlt := Hlt.out
        have hz7 := Hz7.out
        have hne : ∀ q, q < sn + 1 → some q ≠ (Value.slice Ak acc.length ck).ownBlock := fun q hq e => by have := (hlt q e.symm).1; omega
        have h9 : ∀ q, q < W7.heap.size → some q ≠ (Value.slice Ak acc.length ck).ownBlock → w9.heap[q]? = W7.heap[q]? := fun q hq hqo => (hgrow9.block q (by rw [hz8]; omega) hqo).trans (Hb8.out q hq)
        have hz9 := hgrow9.size
        have Hn9 := Lib.hid ((h9 sn (by omega) (hne _ (by omega))).trans Hn7.out)
        have Hx9 := Lib.hid ((h9 g (by omega) (hne _ (by omega))).trans Hx7.out)
        have Hr9 := Lib.hid ((h9 s (by omega) (hne _ (by omega))).trans Hr7.out)
        have HRB9 := Lib.hid (HRB7.out.keep (w' := w9) fun p hp => World.cell?_of_block (h9 _ (by have := (HPs.out _ hp).1; omega) (hne _ (by have := (HPs.out _ hp).1; omega))))
        have hkk : ∀ q, In W5.heap.size w6.heap.size q → q < W7.heap.size ∧ some q ≠ (Value.slice Ak acc.length ck).ownBlock := fun q hq => ⟨by have := hq.2; omega, fun e => by have := (hlt q e.symm).2; have := hq.1; omega⟩
        have Hds9 := Lib.hid (RDs.snoc (RD.mono (P' := Vp sn w9 (.slice A9 (acc.length + 1) c9)) (fun q hq => ⟨by have := hq.1; omega, by have := hq.2; omega, fun e => by
            rcases hor9 with h | h
            · exact (hkk q hq).2 (e.trans h)
            · rw [h] at e; injection e with e; have := hq.2; omega⟩) (RD.keep (w' := w9) (fun p hp => World.cell?_of_block (h9 _ (hkk _ hp).1 (hkk _ hp).2)) HRD7.out))
          (RDs.mono (P' := Vp sn w9 (.slice A9 (acc.length + 1) c9)) (fun q hq => ⟨hq.1, by have := hq.2.1; omega, fun e => by
            rcases hor9 with h | h
            · exact hq.2.2 (e.trans h)
            · rw [h] at e; injection e with e; have := hq.2.1; omega⟩) (RDs.keep (w' := w9) (fun p hp => World.cell?_of_block (h9 _ (by have := hp.2.1; omega) hp.2.2)) Hds7.out)))
        have HB9 := Lib.hid (HB8.out.trans (below_bb (⟨hgrow9.os, hgrow9.tape, hgrow9.output, by omega, fun q hq => h9 q (by omega) (hne _ (by omega))⟩ : Below s W7 w9) g))
        have Hsz9 := Lib.hid (show sn + 1 ≤ w9.heap.size by omega)
        have Hown9 := Lib.hid hown9
        clear hown9 hgrow9 hor9 hss hs2 hz6 hz8 hwr hzz hlt hz7 hne h9 hz9 hkk HRB7 HRD7 Hds7 Hown7 Hown8 Hr8 Hb8 HB8 Hr7 Hx7 Hn7 m2 k0 k1 k2 Hk7 Hz7 Hz8 Hlt
        have n0 := blk_cell Hn9.out 0
        have n1' := blk_cell Hn9.out 1
        have n2' := blk_cell Hn9.out 2
        have f2 := blk_free Hn9.out 2
        simp only [List.getElem?_toArray, List.getElem?_cons_zero, List.getElem?_cons_succ] at n0 n1' n2'
        have hst : ∀ q, q ≠ sn → (w9.setCell ⟨sn, 2, none⟩ (.slice A9 (acc.length + 1) c9)).heap[q]? = w9.heap[q]? := fun q hq => Below.heap_setCell _ _ _ _ hq
        have Hst := Lib.hid hst
        have Hz10 := Lib.hid (show (w9.setCell ⟨sn, 2, none⟩ (.slice A9 (acc.length + 1) c9)).heap.size = w9.heap.size by simp [World.setCell])
        have Hn10 := Lib.hid (show (w9.setCell ⟨sn, 2, none⟩ (.slice A9 (acc.length + 1) c9)).heap[sn]? = some (.cells #[.int .i64 48, .slice none 0 0, .slice A9 (acc.length + 1) c9] 172 (0, 0)) by simpa using bset Hn9.out 2 (.slice A9 (acc.length + 1) c9))
        have Hal2 := Lib.hid (show (acc ++ [k]).length = acc.length + 1 by simp)
        clear hst
        go_wp2
        go_roundw
        case rel =>
          have hs2 := Hsz2.out
          refine ⟨r', A6, c6, acc ++ [k], l', f, A9, c9, cs ++ [.int .i64 xi, .slice B1 n1 d1, .slice B2 n2 d2], rfl, HRB9.out.keep (fun p hp => World.cell?_of_block (Hst.out _ (by have := (HPs.out _ hp).1; omega))), (Hst.out g (by omega)).trans Hx9.out, (Hst.out s (by omega)).trans Hr9.out, ?_, ?_, ?_, Hf2.out, HK2.out, Hla2.out, HB9.out.setCell (by show s ≤ sn; omega) _, by rw [Hz10.out]; exact Hsz9.out⟩
          · rw [Hal2.out]; exact Hn10.out
          · rw [Hal2.out]; exact own_at Hown9.out fun q h1 h2 => Hst.out q (by omega)
          · rw [Hal2.out]
            exact RDs.mono (fun q hq => ⟨hq.1, by rw [Hz10.out]; exact hq.2.1, hq.2.2⟩) (RDs.keep (fun p hp => World.cell?_of_block (Hst.out _ (by have := hp.1; omega))) Hds9.out)
        case measure => exact Hlen.out
end Go.Proofs.YtendnkpiidhogaaGreat.Der

namespace Go.Proofs.YtendnkpiidhogaaGreat.Der
open Go.RowKit Go.Shelf

attribute [local go_sem] Oper.semAt_some

def readOf (b : List Nat) : Option (DN × Nat) :=
 match nodeOf 16 1024 b with
 | none => none
 | some (t, r, _) => if 65536 < b.length - r.length then none else some (t, b.length - r.length)
def ReadP (R : Option (DN × Nat)) (s : Nat) (e : Ending) (w' : World) : Prop :=
 match R with
 | none => e = .returned (.tuple #[.agg #[.int .i64 0, .slice none 0 0, .slice none 0 0], .int .i64 0, .bool false])
 | some (t, n) => ∃ v, e = .returned (.tuple #[v, .int .i64 (n : Int), .bool true]) ∧ RD w' (In s w'.heap.size) t v
theorem set3a {w : World} {s : Nat} {t : TypeId} {a b c : Value} (h : w.heap[s]? = some (.cells #[a, b, c] t (0, 0))) (u v x : Value) (o : Obj) : ((((w.setCell ⟨s, 0, none⟩ u).setCell ⟨s, 1, none⟩ v).setCell ⟨s, 2, none⟩ x).alloc o).heap[s]? = some (.cells #[u, v, x] t (0, 0)) :=
 (Below.heap_alloc _ _ _ (blk_lt (set3 h u v x))).trans (set3 h u v x)

set_option maxRecDepth 100000 in
set_option maxHeartbeats 4000000 in
theorem derRead_any (P : Nat → Prop) (A : Option Addr) (c : Nat) (b : List Nat) (w : World) (hb : RB w P A c b) (hP : ∀ q, P q → q < w.heap.size) :
    Calls Tryz.prog 185 #[.slice A b.length c] w fun e w' => ReadP (readOf b) w.heap.size e w' ∧ Below w.heap.size w w' := by
  obtain ⟨R, hR⟩ : ∃ R, readOf b = R := ⟨_, rfl⟩
  rw [hR]
  obtain ⟨hlc, hc, hl⟩ := hb.cap
  have hB := ((Below.refl w.heap.size w).alloc (Nat.le_refl _) (.cells #[.int .i64 0, .slice none 0 0, .slice none 0 0] 172)).alloc (by simp) (.cells #[.int .i64 1024] 241)
  have h0 := (Below.heap_alloc (w.alloc (.cells #[.int .i64 0, .slice none 0 0, .slice none 0 0] 172)) (.cells #[.int .i64 1024] 241) w.heap.size (by simp)).trans (heap_alloc_new w _)
  have h1 := heap_alloc_new (w.alloc (.cells #[.int .i64 0, .slice none 0 0, .slice none 0 0] 172)) (.cells #[.int .i64 1024] 241)
  rw [World.size_alloc] at h1
  have hz : ((w.alloc (.cells #[.int .i64 0, .slice none 0 0, .slice none 0 0] 172)).alloc (.cells #[.int .i64 1024] 241)).heap.size = w.heap.size + 2 := by simp
  have hb1 := hb.below hB hP
  have HB := Lib.hid hB
  have H0 := Lib.hid h0
  have H1 := Lib.hid h1
  have Hz := Lib.hid hz
  have Hb1 := Lib.hid hb1
  have HR := Lib.hid hR
  clear hB h0 h1 hz hb1 hR hb
  go_enter Tryz.func185, Tryz.ntmps185
  go_wp2_with fail
  obtain ⟨s, hs⟩ : ∃ s, w.heap.size = s := ⟨_, rfl⟩
  rw [hs] at HB H0 H1 Hz ⊢
  have Hs := Lib.hid hs
  clear hs
  generalize (w.alloc (.cells #[.int .i64 0, .slice none 0 0, .slice none 0 0] 172)).alloc (.cells #[.int .i64 1024] 241) = W1 at *
  have HP := Lib.hid (show ∀ q, P q → q < s from fun q hq => by have := hP q hq; have := Hs.out; omega)
  clear hP
  refine (node_any 16 0 1024 (s + 1) P A c b W1 (by omega) (by omega) (by omega) H1.out Hb1.out (fun q hq => by have := HP.out q hq; have := Hz.out; exact ⟨by omega, by omega⟩)).mono ?_
  obtain ⟨R0, hR0⟩ : ∃ R0, nodeOf 16 1024 b = R0 := ⟨_, rfl⟩
  rw [hR0]
  have HR0 := Lib.hid hR0
  clear hR0
  rintro e w2 ⟨⟨lf, -, hN⟩, hB2⟩
  have h2 := (hB2.block s (by have := Hz.out; omega) (by omega)).trans H0.out
  have hB3 : Below s w w2 := HB.out.trans ⟨hB2.os, hB2.tape, hB2.output, hB2.size, fun q hq => hB2.block q (by have := Hz.out; omega) (by omega)⟩
  have H2 := Lib.hid h2
  have HB3 := Lib.hid hB3
  have Hlt := Lib.hid (show s + 2 ≤ w2.heap.size by have := Hz.out; have := hB2.size; omega)
  clear h2 hB3 hB2 H0 H1 HB
  cases R0 with
  | none =>
    obtain ⟨xi, B1, n1, d1, B2, n2, d2, v2, rfl⟩ := hN
    have hR : R = none := by rw [← HR.out]; unfold readOf; rw [HR0.out]
    subst hR
    have hn2 := (Below.heap_alloc w2 (.cells #[.int .i64 xi, .slice B1 n1 d1, .slice B2 n2 d2] 172) s (by have := Hlt.out; omega)).trans H2.out
    have HB4 := Lib.hid (HB3.out.alloc (by have := Hlt.out; omega) (.cells #[.int .i64 xi, .slice B1 n1 d1, .slice B2 n2 d2] 172))
    go_upto_region 3 with fail
    have q0 := blk_cell hn2 0
    have q1 := blk_cell hn2 1
    have q2 := blk_cell hn2 2
    have p0 := blk_free hn2 0
    have p1 := blk_free hn2 1
    have p2 := blk_free hn2 2
    simp only [List.getElem?_toArray, List.getElem?_cons_zero, List.getElem?_cons_succ] at q0 q1 q2
    generalize w2.alloc (.cells #[.int .i64 xi, .slice B1 n1 d1, .slice B2 n2 d2] 172) = W4 at *
    go_wp2
    have r := set3 hn2 (.int .i64 0) (.slice none 0 0) (.slice none 0 0)
    have r0 := blk_cell r 0
    have r1 := blk_cell r 1
    have r2 := blk_cell r 2
    simp only [List.getElem?_toArray, List.getElem?_cons_zero, List.getElem?_cons_succ] at r0 r1 r2
    refine bodyPost_ret (v := .tuple #[.agg #[.int .i64 0, .slice none 0 0, .slice none 0 0], .int .i64 0, .bool false]) (by simp [results, Tryz.results185, go_sem, r0, r1, r2]) rfl ⟨rfl, ?_⟩
    rw [Hs.out]
    exact ((HB4.out.setCell (p := ⟨s, 0, none⟩) (Nat.le_refl _) _).setCell (p := ⟨s, 1, none⟩) (Nat.le_refl _) _).setCell (p := ⟨s, 2, none⟩) (Nat.le_refl _) _
  | some q =>
    obtain ⟨t, r, l⟩ := q
    obtain ⟨-, v, A6, c6, rfl, hRD, -⟩ := hN
    obtain ⟨xi, B1, n1, d1, B2, n2, d2, rfl⟩ := hRD.shape
    have hn2 := (Below.heap_alloc w2 (.cells #[.int .i64 xi, .slice B1 n1 d1, .slice B2 n2 d2] 172) s (by have := Hlt.out; omega)).trans H2.out
    have hk4 := heap_alloc_new w2 (.cells #[.int .i64 xi, .slice B1 n1 d1, .slice B2 n2 d2] 172)
    have HB4 := Lib.hid (HB3.out.alloc (by have := Hlt.out; omega) (.cells #[.int .i64 xi, .slice B1 n1 d1, .slice B2 n2 d2] 172))
    have HRD4 := Lib.hid (RD.keep (w' := w2.alloc (.cells #[.int .i64 xi, .slice B1 n1 d1, .slice B2 n2 d2] 172)) (fun p hp => World.cell?_of_block (Below.heap_alloc _ _ _ hp.2)) hRD)
    have Hz4 := Lib.hid (show (w2.alloc (.cells #[.int .i64 xi, .slice B1 n1 d1, .slice B2 n2 d2] 172)).heap.size = w2.heap.size + 1 by simp)
    have Hln := Lib.hid (node_len HR0.out)
    have HR2 : Hid (R = if 65536 < b.length - r.length then none else some (t, b.length - r.length)) := Lib.hid (by rw [← HR.out]; unfold readOf; rw [HR0.out])
    obtain ⟨N, hN⟩ : ∃ N, b.length = N := ⟨_, rfl⟩
    obtain ⟨M, hM⟩ : ∃ M, r.length = M := ⟨_, rfl⟩
    rw [hN] at hlc hl ⊢
    rw [hN, hM] at Hln HR2
    rw [hM]
    clear hRD HR HR0 hN hM
    have k1 : IntKind.i64.wrap ((N : Int) - (M : Int)) = (N : Int) - (M : Int) := by have := Hln.out; rw [IntKind.wrap_i64]; omega
    have g0 : (0 : Int) ≤ (N : Int) - (M : Int) := by have := Hln.out; omega
    go_upto_region 3 with fail
    obtain ⟨s4, hs4⟩ : ∃ s4, w2.heap.size = s4 := ⟨_, rfl⟩
    rw [hs4] at hk4 Hz4 Hlt HRD4 ⊢
    clear hs4
    generalize w2.alloc (.cells #[.int .i64 xi, .slice B1 n1 d1, .slice B2 n2 d2] 172) = W4 at *
    have q0 := blk_cell hn2 0
    have q1 := blk_cell hn2 1
    have q2 := blk_cell hn2 2
    have p0 := blk_free hn2 0
    have p1 := blk_free hn2 1
    have p2 := blk_free hn2 2
    simp only [List.getElem?_toArray, List.getElem?_cons_zero, List.getElem?_cons_succ] at q0 q1 q2
    by_cases h6 : 65536 < N - M
    · have hR : R = none := HR2.out.trans (if_pos h6)
      subst hR
      have k2 : (65536 : Int) < (N : Int) - (M : Int) := by omega
      go_wp2
      have r := set3 hn2 (.int .i64 0) (.slice none 0 0) (.slice none 0 0)
      have r0 := blk_cell r 0
      have r1 := blk_cell r 1
      have r2 := blk_cell r 2
      simp only [List.getElem?_toArray, List.getElem?_cons_zero, List.getElem?_cons_succ] at r0 r1 r2
      refine bodyPost_ret (v := .tuple #[.agg #[.int .i64 0, .slice none 0 0, .slice none 0 0], .int .i64 0, .bool false]) (by simp [results, Tryz.results185, go_sem, r0, r1, r2]) rfl ⟨rfl, ?_⟩
      rw [Hs.out]
      exact ((HB4.out.setCell (p := ⟨s, 0, none⟩) (Nat.le_refl _) _).setCell (p := ⟨s, 1, none⟩) (Nat.le_refl _) _).setCell (p := ⟨s, 2, none⟩) (Nat.le_refl _) _
    · have hR : R = some (t, N - M) := HR2.out.trans (if_neg h6)
      subst hR
      have k2 : ¬ (65536 : Int) < (N : Int) - (M : Int) := by omega
      have m0 := blk_cell hk4 0
      have m1 := blk_cell hk4 1
      have m2 := blk_cell hk4 2
      simp only [List.getElem?_toArray, List.getElem?_cons_zero, List.getElem?_cons_succ] at m0 m1 m2
      have Hk := Lib.hid (show ((N : Int) - (M : Int)) = ((N - M : Nat) : Int) by have := Hln.out; omega)
      have Hset := Lib.hid (set3 hn2 (.int .i64 xi) (.slice B1 n1 d1) (.slice B2 n2 d2))
      clear hn2 hk4
      go_wp2
      have r := Hset.out
      have r0 := blk_cell r 0
      have r1 := blk_cell r 1
      have r2 := blk_cell r 2
      simp only [List.getElem?_toArray, List.getElem?_cons_zero, List.getElem?_cons_succ] at r0 r1 r2
      refine bodyPost_ret (v := .tuple #[.agg #[.int .i64 xi, .slice B1 n1 d1, .slice B2 n2 d2], .int .i64 ((N : Int) - (M : Int)), .bool true]) (by simp [results, Tryz.results185, go_sem, r0, r1, r2]) rfl ⟨⟨_, by rw [Hk.out], ?_⟩, ?_⟩
      · rw [Hs.out]; exact RD.mono (P := In W1.heap.size s4) (fun q hq => ⟨by have := hq.1; have := Hz.out; omega, by have := hq.2; have := Hz4.out; simp [World.setCell]; omega⟩) (RD.keep (fun p hp => World.cell?_of_block (have hq : p.block ≠ s := by have := hp.1; have := Hz.out; omega
          (Below.heap_setCell _ _ _ _ hq).trans ((Below.heap_setCell _ _ _ _ hq).trans (Below.heap_setCell _ _ _ _ hq)))) HRD4.out)
      · rw [Hs.out]; exact ((HB4.out.setCell (p := ⟨s, 0, none⟩) (Nat.le_refl _) _).setCell (p := ⟨s, 1, none⟩) (Nat.le_refl _) _).setCell (p := ⟨s, 2, none⟩) (Nat.le_refl _) _
end Go.Proofs.YtendnkpiidhogaaGreat.Der

namespace Go.Proofs.YtendnkpiidhogaaGreat.Der
open Go.RowKit Go.Shelf

attribute [local go_sem] Oper.semAt_some

def KreadP (R : Option (DN × Nat)) (N s : Nat) (e : Ending) (w' : World) : Prop :=
 match R with
 | none => e = .returned (.tuple #[.agg #[.int .i64 0, .slice none 0 0, .slice none 0 0], .bool false])
 | some (t, n) => ∃ v, e = .returned (.tuple #[v, .bool (n == N)]) ∧ RD w' (In s w'.heap.size) t v

set_option maxRecDepth 100000 in
set_option maxHeartbeats 4000000 in
theorem kread_any (P : Nat → Prop) (A : Option Addr) (c : Nat) (b : List Nat) (w : World) (hb : RB w P A c b) (hP : ∀ q, P q → q < w.heap.size) :
    Calls Tryz.prog 151 #[.slice A b.length c] w fun e w' => KreadP (readOf b) b.length w.heap.size e w' ∧ Below w.heap.size w w' := by
  have hB := (Below.refl w.heap.size w).alloc (Nat.le_refl _) (.cells #[.int .i64 0, .slice none 0 0, .slice none 0 0] 172)
  have h0 := heap_alloc_new w (.cells #[.int .i64 0, .slice none 0 0, .slice none 0 0] 172)
  have hz : (w.alloc (.cells #[.int .i64 0, .slice none 0 0, .slice none 0 0] 172)).heap.size = w.heap.size + 1 := by simp
  have hb1 := hb.below hB hP
  have HC := Lib.hid (derRead_any P A c b _ hb1 (fun q hq => by have := hP q hq; omega))
  obtain ⟨R, hR⟩ : ∃ R, readOf b = R := ⟨_, rfl⟩
  rw [hR] at HC ⊢
  have HB := Lib.hid hB
  have H0 := Lib.hid h0
  have Hz := Lib.hid hz
  obtain ⟨N, hN⟩ : ∃ N, b.length = N := ⟨_, rfl⟩
  rw [hN] at HC ⊢
  clear hB h0 hz hb1 hb hR hN
  go_enter Tryz.func151, Tryz.ntmps151
  go_wp2_with fail
  obtain ⟨s, hs⟩ : ∃ s, w.heap.size = s := ⟨_, rfl⟩
  rw [hs] at HB H0 Hz ⊢
  have Hs := Lib.hid hs
  clear hs
  refine HC.out.mono ?_
  clear HC
  generalize w.alloc (.cells #[.int .i64 0, .slice none 0 0, .slice none 0 0] 172) = W1 at *
  rintro e w2 ⟨hRd, hB2⟩
  have h2 := (hB2.block s (by have := Hz.out; omega)).trans H0.out
  have hlt : s < w2.heap.size := by have := Hz.out; have := hB2.size; omega
  have HB3 := Lib.hid (HB.out.trans (hB2.mono (by have := Hz.out; omega)))
  have H2 := Lib.hid h2
  have Hlt := Lib.hid hlt
  clear h2 hB2 H0 hlt
  cases R with
  | none =>
    unfold ReadP at hRd
    subst hRd
    have hn2 := (Below.heap_alloc w2 (.cells #[.int .i64 0, .slice none 0 0, .slice none 0 0] 172) s Hlt.out).trans H2.out
    have hk4 := heap_alloc_new w2 (.cells #[.int .i64 0, .slice none 0 0, .slice none 0 0] 172)
    have HB4 := Lib.hid (HB3.out.alloc (Nat.le_of_lt Hlt.out) (.cells #[.int .i64 0, .slice none 0 0, .slice none 0 0] 172))
    go_upto_region 2 with fail
    generalize w2.alloc (.cells #[.int .i64 0, .slice none 0 0, .slice none 0 0] 172) = W4 at *
    obtain ⟨s4, hs4⟩ : ∃ s4, w2.heap.size = s4 := ⟨_, rfl⟩
    rw [hs4] at hk4 Hlt ⊢
    clear hs4
    have m0 := blk_cell hk4 0
    have m1 := blk_cell hk4 1
    have m2 := blk_cell hk4 2
    simp only [List.getElem?_toArray, List.getElem?_cons_zero, List.getElem?_cons_succ] at m0 m1 m2
    have q0 := blk_cell hn2 0
    have q1 := blk_cell hn2 1
    have q2 := blk_cell hn2 2
    have p0 := blk_free hn2 0
    have p1 := blk_free hn2 1
    have p2 := blk_free hn2 2
    simp only [List.getElem?_toArray, List.getElem?_cons_zero, List.getElem?_cons_succ] at q0 q1 q2
    have Hset := Lib.hid (set3 hn2 (.int .i64 0) (.slice none 0 0) (.slice none 0 0))
    clear hn2 hk4
    go_wp2
    have r := Hset.out
    have r0 := blk_cell r 0
    have r1 := blk_cell r 1
    have r2 := blk_cell r 2
    simp only [List.getElem?_toArray, List.getElem?_cons_zero, List.getElem?_cons_succ] at r0 r1 r2
    refine bodyPost_ret (v := .tuple #[.agg #[.int .i64 0, .slice none 0 0, .slice none 0 0], .bool false]) (by simp [results, Tryz.results151, go_sem, r0, r1, r2]) rfl ⟨rfl, ?_⟩
    rw [Hs.out]
    exact ((HB4.out.setCell (p := ⟨s, 0, none⟩) (Nat.le_refl _) _).setCell (p := ⟨s, 1, none⟩) (Nat.le_refl _) _).setCell (p := ⟨s, 2, none⟩) (Nat.le_refl _) _
  | some q =>
    obtain ⟨t, n⟩ := q
    unfold ReadP at hRd
    obtain ⟨v, rfl, hRD⟩ := hRd
    obtain ⟨xi, B1, n1, d1, B2, n2, d2, rfl⟩ := hRD.shape
    have hn2 := (Below.heap_alloc w2 (.cells #[.int .i64 xi, .slice B1 n1 d1, .slice B2 n2 d2] 172) s Hlt.out).trans H2.out
    have hk4 := heap_alloc_new w2 (.cells #[.int .i64 xi, .slice B1 n1 d1, .slice B2 n2 d2] 172)
    have HB4 := Lib.hid (HB3.out.alloc (Nat.le_of_lt Hlt.out) (.cells #[.int .i64 xi, .slice B1 n1 d1, .slice B2 n2 d2] 172))
    have HRD4 := Lib.hid (RD.keep (w' := w2.alloc (.cells #[.int .i64 xi, .slice B1 n1 d1, .slice B2 n2 d2] 172)) (fun p hp => World.cell?_of_block (Below.heap_alloc _ _ _ hp.2)) hRD)
    have Hz4 := Lib.hid (show (w2.alloc (.cells #[.int .i64 xi, .slice B1 n1 d1, .slice B2 n2 d2] 172)).heap.size = w2.heap.size + 1 by simp)
    clear hRD
    go_upto_region 2 with fail
    obtain ⟨s4, hs4⟩ : ∃ s4, w2.heap.size = s4 := ⟨_, rfl⟩
    rw [hs4] at hk4 Hz4 Hlt HRD4 ⊢
    clear hs4
    generalize w2.alloc (.cells #[.int .i64 xi, .slice B1 n1 d1, .slice B2 n2 d2] 172) = W4 at *
    have m0 := blk_cell hk4 0
    have m1 := blk_cell hk4 1
    have m2 := blk_cell hk4 2
    simp only [List.getElem?_toArray, List.getElem?_cons_zero, List.getElem?_cons_succ] at m0 m1 m2
    have q0 := blk_cell hn2 0
    have q1 := blk_cell hn2 1
    have q2 := blk_cell hn2 2
    have p0 := blk_free hn2 0
    have p1 := blk_free hn2 1
    have p2 := blk_free hn2 2
    simp only [List.getElem?_toArray, List.getElem?_cons_zero, List.getElem?_cons_succ] at q0 q1 q2
    have Hset := Lib.hid (set3 hn2 (.int .i64 xi) (.slice B1 n1 d1) (.slice B2 n2 d2))
    obtain ⟨bb, hbb⟩ : ∃ bb, (n == N) = bb := ⟨_, rfl⟩
    have hbi : ((n : Int) == (N : Int)) = bb := by rw [← hbb, Bool.eq_iff_iff]; simp; omega
    have Hbb := Lib.hid hbb
    clear hn2 hk4 hbb
    go_wp2
    have r := Hset.out
    have r0 := blk_cell r 0
    have r1 := blk_cell r 1
    have r2 := blk_cell r 2
    simp only [List.getElem?_toArray, List.getElem?_cons_zero, List.getElem?_cons_succ] at r0 r1 r2
    refine bodyPost_ret (v := .tuple #[.agg #[.int .i64 xi, .slice B1 n1 d1, .slice B2 n2 d2], .bool bb]) (by simp [results, Tryz.results151, go_sem, r0, r1, r2]) rfl ⟨⟨_, by rw [Hbb.out], ?_⟩, ?_⟩
    · rw [Hs.out]
      exact RD.mono (P := In W1.heap.size s4) (fun q hq => ⟨by have := hq.1; have := Hz.out; omega, by have := hq.2; have := Hz4.out; simp [World.setCell]; omega⟩) (RD.keep (fun p hp => World.cell?_of_block (have hq : p.block ≠ s := by have := hp.1; have := Hz.out; omega
          (Below.heap_setCell _ _ _ _ hq).trans ((Below.heap_setCell _ _ _ _ hq).trans (Below.heap_setCell _ _ _ _ hq)))) HRD4.out)
    · rw [Hs.out]
      exact ((HB4.out.setCell (p := ⟨s, 0, none⟩) (Nat.le_refl _) _).setCell (p := ⟨s, 1, none⟩) (Nat.le_refl _) _).setCell (p := ⟨s, 2, none⟩) (Nat.le_refl _) _
end Go.Proofs.YtendnkpiidhogaaGreat.Der

namespace Go.Proofs.YtendnkpiidhogaaGreat.Der
open Go.RowKit Go.Shelf

attribute [local go_sem] Oper.semAt_some

def up7 : Nat → Nat → List Nat → List Nat
 | 0, _, out => out
 | f + 1, n, out => if n = 0 then out else up7 f (n / 128) ((128 + n % 128) :: out)
def b128 (n : Nat) : List Nat := up7 9 (n / 128) [n % 128]
def oidOf (l : List Int) : List Nat := b128 (40 * (l.getD 0 0).toNat + (l.getD 1 0).toNat) ++ ((l.drop 2).flatMap fun z => b128 z.toNat)
theorem up7_len : ∀ (f n : Nat) (out : List Nat), (up7 f n out).length ≤ out.length + f
  | 0, _, _ => Nat.le_refl _
  | f + 1, n, out => by
    rw [up7]
    split
    · omega
    · have := up7_len f (n / 128) ((128 + n % 128) :: out)
      simp at this; omega
theorem b128_len (n : Nat) : (b128 n).length ≤ 10 := by
 have := up7_len 9 (n / 128) [n % 128]
 simpa [b128] using this
theorem or_128 (x : Nat) : bits .or .i64 ((x : Int) % 128) 128 = ((128 + x % 128 : Nat) : Int) := by
 have h1 : (BitVec.ofInt 64 ((x : Int) % 128)).toNat = x % 128 := by
  rw [show (x : Int) % 128 = ((x % 128 : Nat) : Int) by omega, BitVec.ofInt_natCast, BitVec.toNat_ofNat]; exact Nat.mod_eq_of_lt (by omega)
 have h2 : (BitVec.ofInt 64 (128 : Int)).toNat = 128 := by decide
 have h3 : x % 128 ||| 128 = 128 + x % 128 := by
  have := Nat.shiftLeft_add_eq_or_of_lt (b := x % 128) (i := 7) (by omega) 1
  rw [Nat.shiftLeft_eq] at this
  rw [Nat.or_comm]; rw [← this]
 show IntKind.i64.wrap ((BitVec.ofInt 64 ((x : Int) % 128) ||| BitVec.ofInt 64 (128 : Int)).toNat : Int) = _
 rw [BitVec.toNat_or, h1, h2, h3, IntKind.wrap_i64]
 omega
theorem byte_of (z : Int) : ∃ b : Nat, b < 256 ∧ z % 256 = (b : Int) := ⟨(z % 256).toNat, by omega, by omega⟩
theorem ow_lower {w : World} {base b' : Nat} {A : Option Addr} {c : Nat} {bs : List Nat} (h : OW w base A c bs) (hb : b' ≤ base) : OW w b' A c bs := by
 obtain ⟨⟨h1, h2⟩, h3⟩ := h
 refine ⟨⟨h1, ?_⟩, h3⟩
 rcases h2 with h2 | ⟨g, cap, cur, e, hg, r⟩
 · exact .inl h2
 · exact .inr ⟨g, cap, cur, e, by omega, r⟩
set_option maxRecDepth 100000 in
set_option maxHeartbeats 4000000 in
theorem digits_any (n : Nat) (w : World) (hn : n < 268435456) :
 Calls Tryz.prog 240 #[.int .i64 n] w fun e w' => ∃ A c, e = .returned (.slice A (b128 n).length c) ∧ OW w' w.heap.size A c (b128 n) ∧ Below w.heap.size w w' := by
 obtain ⟨R, hR⟩ : ∃ R, b128 n = R := ⟨_, rfl⟩
 rw [hR]
 have HR := Lib.hid hR
 clear hR
 obtain ⟨b0, hb0, he0⟩ := byte_of (bits .and .i64 (n : Int) 127)
 have Hb0 := Lib.hid (show b0 = n % 128 by rw [i64_and127] at he0; omega)
 have hO := Lib.hid (OW.lit w b0 hb0)
 go_enter Tryz.func240, Tryz.ntmps240
 go_wp2
 go_loopw [0, 3] (fun v s wr => ∃ (x : Nat) (A : Option Addr) (c : Nat) (bs : List Nat), v = .int .i64 (x : Int) ∧ s = .slice A bs.length c ∧ OW wr w.heap.size A c bs ∧ 0 < bs.length ∧ bs.length ≤ 10 ∧ x < 128 ^ (10 - bs.length) ∧ up7 (10 - bs.length) x bs = R ∧ Below w.heap.size w wr) (fun v _ _ => (intOf v).toNat)
 case atStart => exact ⟨n / 128, _, 1, [b0], by simp, rfl, hO.out, by simp, by simp, by simp; omega, by rw [Hb0.out]; exact HR.out, (Below.refl _ w).alloc (Nat.le_refl _) _⟩
 case round =>
  clear hO he0 hb0
  obtain ⟨x, A, c, bs, rfl, rfl, hO, h0, hl, hx, hup, hB⟩ := hrel
  have HUp := Lib.hid hup
  clear hup
  by_cases hx0 : 0 < x
  · obtain ⟨b, hb, hbe⟩ := byte_of (bits .or .i64 (bits .and .i64 (x : Int) 127) 128)
    have Hbe := Lib.hid (show b = 128 + x % 128 by rw [i64_and127, or_128 x] at hbe; omega)
    have hl9 : bs.length ≤ 9 := by
     rcases Nat.lt_or_ge 9 bs.length with h | h
     · have : bs.length = 10 := by omega
       rw [this] at hx
       simp at hx
       omega
     · exact h
    have hx' : x / 128 < 128 ^ (10 - (bs.length + 1)) := by
     rw [show 10 - bs.length = 10 - (bs.length + 1) + 1 by omega, Nat.pow_succ] at hx
     exact Nat.div_lt_of_lt_mul (by rw [Nat.mul_comm]; exact hx)
    have HX := Lib.hid hx'
    have HUp2 := Lib.hid (show up7 (10 - (bs.length + 1)) (x / 128) (b :: bs) = R by rw [Hbe.out, ← HUp.out, show 10 - bs.length = 10 - (bs.length + 1) + 1 by omega, up7, if_neg (by omega)])
    have hs := hB.size
    have HO := Lib.hid (OW.lit wr b hb)
    have HR := Lib.hid ((hO.rb (by omega)).below ((Below.refl _ wr).alloc (Nat.le_refl _) (.cells #[.int .u8 (b : Int)] 5)) fun q hq => hq.2)
    have hi : (0 : Int) < (x : Int) := by omega
    clear hx hx' hO
    go_wp2_with (at_builtin; refine app8 rfl (.tmp 18) (.tmp 19) rfl wr.heap.size (bs := [b]) rfl HO.out rfl HR.out (by simp; omega) (by simp) ?_; intro A2 c2 w2 hw2 hb2)
    have HB := Lib.hid ((hB.alloc hs (.cells #[.int .u8 (b : Int)] 5)).trans (hb2.mono hs))
    go_roundw
    case rel => exact ⟨x / 128, A2, c2, b :: bs, by simp, rfl, ow_lower hw2 hs, by simp, by simp; omega, by simpa using HX.out, by simpa using HUp2.out, HB.out⟩
    case measure => simp [intOf]; omega
  · have hx0' : x = 0 := by omega
    subst hx0'
    go_wp2
    go_ret
    have hRb : bs = R := by rw [← HUp.out]; cases 10 - bs.length <;> simp [up7]
    subst hRb
    exact ⟨A, c, rfl, hO, hB⟩

def RZ (w : World) (P : Nat → Prop) (A : Option Addr) (c : Nat) (l : List Int) : Prop := RS w P 1 A l.length c (l.map fun x => .int .i64 x)
theorem RZ.keep {w w' : World} {P : Nat → Prop} {A : Option Addr} {c : Nat} {l : List Int} (h : RZ w P A c l) (hk : ∀ p : Addr, P p.block → w'.cell? p = w.cell? p) : RZ w' P A c l := RS.keep h hk
theorem RZ.below {w w' : World} {P : Nat → Prop} {A : Option Addr} {c : Nat} {l : List Int} {B : Nat} (h : RZ w P A c l) (hb : Below B w w') (hB : ∀ b, P b → b < B) : RZ w' P A c l := RS.below h hb hB
theorem RZ.at_ {w : World} {P : Nat → Prop} {A : Option Addr} {c : Nat} {l : List Int} (h : RZ w P A c l) {i : Nat} (hi : i < l.length) : ∃ ad, A = some ad ∧ P ad.block ∧ w.cell? (ad.add i) = some (.int .i64 (l.getD i 0)) := by
 obtain ⟨h1, h2, h3, h4⟩ := h
 obtain ⟨ad, rfl, hb, hc⟩ := h4 (by omega)
 exact ⟨ad, rfl, hb, hc _ _ (by simp [List.getD_eq_getElem?_getD, List.getElem?_eq_getElem hi])⟩
end Go.Proofs.YtendnkpiidhogaaGreat.Der
