/- What the reference's less computes. -/
import Derived.Test.YtldhmjfjbalakaaGreatRefQuo
import Derived.Laws.CopyRow
namespace Go.Proofs.YtldhmjfjbalakaaGreat
open Go.RowKit

theorem wp_copy_eq {P : Program} (w : World) {o : Oper} {a : Act} {K : Act → World → Prop} {Q : Exit → Act → World → Prop} (d s : Operand) (t t' : TypeId)
    (ho : o.op = .call { callee := .builtin .copy, args := #[d, s], argTypes := #[t, t'] }) (v u : Value) (hd : a.eval d = v) (hs : a.eval s = u) {v' : Value} {w' : World}
    (hr : (Builtin.copy_ #[t, t'] o.type #[v, u]).run P w = .ok v' w') (h : K (a.put o.dst v') w') : o.wp P a w K Q := by
  unfold Oper.wp execOp
  simp only [ho, resolve, invoke, builtin, Sem.run_bind, Sem.run_pure, Result.andThen_ok, List.map_toArray, List.map_cons, List.map_nil, hd, hs, hr]
  exact h
theorem wpList_copy_eq {P : Program} (w : World) {ops : Array Oper} {rest : List Oper} {o : Oper} {a : Act} {Q : Exit → Act → World → Prop} (hgd : o.guard = none) (d s : Operand) (t t' : TypeId)
    (ho : o.op = .call { callee := .builtin .copy, args := #[d, s], argTypes := #[t, t'] }) (v u : Value) (hd : a.eval d = v) (hs : a.eval s = u) {v' : Value} {w' : World}
    (hr : (Builtin.copy_ #[t, t'] o.type #[v, u]).run P w = .ok v' w') (h : wpList P ops Q rest (a.put o.dst v') w') : wpList P ops Q (o :: rest) a w :=
  wpList_plain hgd fun _ hK => wp_copy_eq w d s t t' ho v u hd hs hr (hK _ _ h)
theorem info64size : (Tryz.prog.info? 90).map (·.size) = some 1 := by kernel_rfl
theorem putAt_dig {u W : List Nat} {k : Nat} (hu : Dig u) (hW : Dig W) : Dig (putAt u W k) := by
  intro x hx
  rcases List.mem_append.1 hx with h | h
  · rcases List.mem_append.1 h with h | h
    · exact hu x (List.mem_of_mem_take h)
    · exact hW x h
  · exact hu x (List.mem_of_mem_drop h)
theorem nts_put (u W : List Nat) (k : Nat) : (((nts u).toArray.toList.take k ++ nts W ++ (nts u).toArray.toList.drop (k + (nts W).length)).toArray) = (nts (putAt u W k)).toArray := by
  simp [nts, putAt, List.map_take, List.map_drop]
/-- The digits of W are copied into u, from k on. -/
theorem copy_put (w : World) (g gw k n m cw : Nat) (u W : List Nat) (ty : TypeId) (hu : Blk w g u) (hw : Blk w gw W) (hn : W.length = n) (hk : k + n ≤ u.length) (hm : u.length - k = m) :
    (Builtin.copy_ #[47, 47] ty #[.slice (some ⟨g, k, none⟩) m m, .slice (some ⟨gw, 0, none⟩) n cw]).run Tryz.prog w = .ok (goInt n) (w.setRow g (nts (putAt u W k)).toArray) := by
  have h := run_copy_row (P := Tryz.prog) w 47 47 ty 90 g k m m ⟨gw, 0, none⟩ n cw (nts u).toArray 90 (nts W) Tryz.underlying47 info64size hu
    (by rw [nts_length, hn]; exact (Nat.min_eq_left (by omega)).symm) (fun j v hj => by rw [add_blk, blk_cell hw j, List.getElem?_toArray]; exact hj) (by rw [nts_length, hn]; simp [nts]; omega) (oneCell_nts W)
  rw [nts_put, nts_length, hn] at h
  exact h
theorem Blk.put {w : World} {g : Nat} {u : List Nat} (h : Blk w g u) (v : List Nat) : Blk (w.setRow g (nts v).toArray) g v := setRow_heap w g _ _ _ _ h
theorem Only.put {w w' : World} {g : Nat} (h : Only g w w') (v : Array Value) : Only g w (w'.setRow g v) :=
  ⟨h.os, h.tape, h.output, by have : (w'.setRow g v).heap.size = w'.heap.size := by simp [World.setRow]
                              exact this.trans h.size, fun k hk => by
    have : (w'.setRow g v).heap[k]? = w'.heap[k]? := by simp [World.setRow, Array.getElem?_modify, Ne.symm hk]
    exact this.trans (h.block k hk)⟩
/-- Nothing but the blocks g and g' is touched. -/
structure Two (g g' : Nat) (w w' : World) : Prop where
  os : w'.os = w.os
  tape : w'.tape = w.tape
  output : w'.output = w.output
  size : w'.heap.size = w.heap.size
  block : ∀ k, k ≠ g → k ≠ g' → w'.heap[k]? = w.heap[k]?
theorem Two.below {g g' B : Nat} {w w' : World} (h : Two g g' w w') (hg : B ≤ g) (hg' : B ≤ g') : Below B w w' := ⟨h.os, h.tape, h.output, Nat.le_of_eq h.size.symm, fun k hk => h.block k (by omega) (by omega)⟩
theorem Only.two {g g' : Nat} {w w' w'' : World} (h : Only g' w w') (k : Only g w' w'') : Two g g' w w'' := ⟨k.os.trans h.os, k.tape.trans h.tape, k.output.trans h.output, k.size.trans h.size, fun i hi hi' => (k.block i hi).trans (h.block i hi')⟩
theorem RN.two {g g' : Nat} {w w' : World} {P : Nat → Prop} {A : Option Addr} {c : Nat} {l : List Nat} (h : RN w P A c l) (ho : Two g g' w w') (hP : ∀ b, P b → b ≠ g ∧ b ≠ g') : RN w' P A c l := h.keep fun q hq => World.cell?_of_block (w := w) (ho.block q.block (hP _ hq).1 (hP _ hq).2)

/-- What one round of 'less' works out. -/
theorem less_round (g v c b x : Nat) (hg : g < 4294967296) (hv : v < 4294967296) (hc : c < 4294967296) (hb : b ≤ 1) (hx : x < 4294967296) :
    ∃ pr lo c' off y b' : Nat, g * v = pr ∧ pr < 18446744073709551616 ∧ c + pr < 18446744073709551616 ∧ lo + 4294967296 * c' = c + pr ∧ (c + pr) % 4294967296 = lo ∧ (c + pr) / 4294967296 = c' ∧ c' < 4294967296 ∧ off = lo + b ∧ off ≤ 4294967296 ∧ y < 4294967296 ∧ b' ≤ 1 ∧ y + (lo + b) = x + 4294967296 * b' ∧ (b' = 0 ↔ ¬ x < off) := by
  have hm := mul_bound hg hv hc (show 0 < 4294967296 by omega)
  obtain ⟨pr, hpr⟩ : ∃ pr, g * v = pr := ⟨_, rfl⟩
  rw [hpr] at hm
  by_cases h : x < (c + pr) % 4294967296 + b
  · exact ⟨pr, (c + pr) % 4294967296, (c + pr) / 4294967296, (c + pr) % 4294967296 + b, x + 4294967296 - ((c + pr) % 4294967296 + b), 1, hpr, by omega, by omega, by omega, rfl, rfl, by omega, rfl, by omega, by omega, by omega, by omega, by simp [h]⟩
  · exact ⟨pr, (c + pr) % 4294967296, (c + pr) / 4294967296, (c + pr) % 4294967296 + b, x - ((c + pr) % 4294967296 + b), 0, hpr, by omega, by omega, by omega, rfl, rfl, by omega, rfl, by omega, by omega, by omega, by omega, by simp [h]⟩

set_option maxRecDepth 100000 in
set_option maxHeartbeats 2000000 in
theorem less_any (g gw k n m G : Nat) (P : Nat → Prop) (A : Option Addr) (c : Nat) (U V W : List Nat) (w : World) (hU : Blk w g U) (hW : Blk w gw W) (h : RN w P A c V) (hgg : g ≠ gw) (hP : ∀ b, P b → b ≠ gw) (hDU : Dig U) (hDV : Dig V) (hUm : U.length = m) (hVn : V.length = n) (hWn : W.length = n + 1) (hk : k + n + 1 ≤ m) (hm : m ≤ 100000) (hG : G < 4294967296) (hz : ∀ j, k + n + 1 ≤ j → dg U j = 0) :
    Calls Tryz.prog 124 #[.slice (some ⟨g, 0, none⟩) m m, .slice A n c, .slice (some ⟨gw, 0, none⟩) (n + 1) (n + 1), .int .i64 (k : Int), .int .u64 (G : Int)] w fun e w' => ∃ U' W', Blk w' g U' ∧ Dig U' ∧ U'.length = m ∧ Blk w' gw W' ∧ W'.length = n + 1 ∧ Two g gw w w' ∧
      ((e = .returned (.bool true) ∧ val 4294967296 U' + 4294967296 ^ k * (G * val 4294967296 V) = val 4294967296 U) ∨ (e = .returned (.bool false) ∧ U' = U ∧ val 4294967296 U / (4294967296 ^ k * val 4294967296 V) < G)) := by
  obtain ⟨h1, h2, h3⟩ := h.cap
  have hnc : n ≤ c := by omega
  have Hz := Lib.hid hz
  have HVn := Lib.hid hVn
  have HUm := Lib.hid hUm
  have Hgg := Lib.hid hgg
  have HG := Lib.hid hG
  have hn1 : n ≤ 100000 := by omega
  clear h1 h2 h3 hz hVn hUm hgg hG
  go_enter Tryz.func124, Tryz.ntmps124
  go_wp2
  go_loopw [12, 13, 14] (fun cv bv iv wr => ∃ (i cr b : Nat) (o : List Nat), iv = .int .i64 (i : Int) ∧ cv = .int .u64 (cr : Int) ∧ bv = .int .u64 (b : Int) ∧ i ≤ n + 1 ∧ cr < 4294967296 ∧ b ≤ 1 ∧ (n < i → cr = 0) ∧ LessAt 4294967296 U V o k G i cr b ∧ Dig (o.take i) ∧ Blk wr gw o ∧ Only gw w wr) (fun _ _ iv _ => n + 1 - (intOf iv).toNat)
  case atStart => exact ⟨0, 0, 0, W, rfl, rfl, rfl, by omega, by omega, by omega, by omega, LessAt.zero (by rw [HVn.out]; exact hWn), by intro x hx; simp at hx, hW, Only.refl _ _⟩
  case round =>
    obtain ⟨i, cr, b, o, rfl, rfl, rfl, hi, hcr, hb, hc0, hS, hDo, hbw, ho⟩ := hrel
    have hol := hS.1
    rw [HVn.out] at hol
    have hbu : Blk _ g U := (ho.block g Hgg.out).trans hU
    by_cases hle : i ≤ n
    · have hxU := hDU.dgLt (k + i)
      have q1 := hbu.cell (i := k + i) (by rw [HUm.out]; omega)
      have q3 := hbw.cell (i := i) (by omega)
      have q4 := hbw.free i
      have k0 : (k : Int) + (i : Int) < (m : Int) := by omega
      have k1 : (i : Int) < (n : Int) + 1 := by omega
      obtain ⟨pr, lo, c', off, y, b', b1, b2, b3, b4, b5, b6, b7, b8, b9, b10, b11, b12, b13⟩ := less_round G (dg V i) cr b (dg U (k + i)) HG.out (hDV.dgLt i) hcr hb hxU
      have hS' := hS.step (x := y) (c' := c') (b' := b') (lo := lo) (by omega) (by rw [b1]; exact b4) b12
      have hblk' := hbw.set i y
      have hD' : Dig ((o.set i y).take (i + 1)) := by
        rw [take_succ_dg (by simpa using (by omega : i < o.length)), getD_set_eq (by omega), List.take_set_of_le (by omega)]
        intro x hx
        rcases List.mem_append.1 hx with h | h
        · exact hDo x h
        · rw [List.mem_singleton.1 h]; exact b10
      have ho' := ho.setCell (p := ⟨gw, 0, none⟩) (f := 0) rfl i (.int .u64 (y : Int))
      rw [add_blk] at ho'
      have e3 : (lo : Int) + (b : Int) = (off : Int) := by omega
      have kx : (dg U (k + i) : Int) < 4294967296 := by omega
      have kp : (pr : Int) < 18446744073709551616 := by omega
      have kc : (cr : Int) + (pr : Int) < 18446744073709551616 := by omega
      have ko : (off : Int) ≤ 4294967296 := by omega
      have hc' : n < i + 1 → c' = 0 := by
        intro hni
        have hin : i = n := by omega
        have : dg V i = 0 := dg_none (by rw [HVn.out]; omega)
        rw [this, Nat.mul_zero] at b1
        omega
      have e1 : ((cr : Int) + (pr : Int)) % 4294967296 = (lo : Int) := by omega
      have e2 : ((cr : Int) + (pr : Int)) / 4294967296 = (c' : Int) := by omega
      have Hb7 := Lib.hid b7
      have Hhc := Lib.hid hc'
      by_cases hlt : i < n
      · obtain ⟨ad, rfl, _, q2⟩ := (h.only ho hP).at_ (i := i) (by rw [HVn.out]; exact hlt)
        have hpr : (dg V i : Int) * (G : Int) = (pr : Int) := by rw [← Int.natCast_mul, Nat.mul_comm, b1]
        rcases Nat.eq_zero_or_pos b' with h0 | h0
        · have hxo := b13.1 h0
          have e4 : (dg U (k + i) : Int) - (off : Int) = (y : Int) := by omega
          subst h0
          clear b1 b2 b3 b4 b5 b6 b7 b8 b9 b10 b12 b13 hS hDo hbw ho hol hbu hxU hcr hc' hc0
          go_wp2
          go_roundw
          case rel => exact ⟨i + 1, c', 0, o.set i y, by go_num, by go_num, rfl, by omega, Hb7.out, by omega, Hhc.out, hS', hD', hblk', ho'⟩
          case measure => simp [intOf]; omega
        · have h01 : b' = 1 := by omega
          have hxo : dg U (k + i) < off := by
            rcases Nat.lt_or_ge (dg U (k + i)) off with h | h
            · exact h
            · have := b13.2 (by omega); omega
          have e4 : (dg U (k + i) : Int) + 4294967296 - (off : Int) = (y : Int) := by omega
          subst h01
          clear b1 b2 b3 b4 b5 b6 b7 b8 b9 b10 b12 b13 hS hDo hbw ho hol hbu hxU hcr hc' hc0
          go_wp2
          go_roundw
          case rel => exact ⟨i + 1, c', 1, o.set i y, by go_num, by go_num, rfl, by omega, Hb7.out, by omega, Hhc.out, hS', hD', hblk', ho'⟩
          case measure => simp [intOf]; omega
      · have hin : i = n := by omega
        have hv0 : dg V i = 0 := dg_none (by rw [HVn.out]; omega)
        rw [hv0, Nat.mul_zero] at b1
        have e1' : (cr : Int) % 4294967296 = (lo : Int) := by omega
        have e2' : (cr : Int) / 4294967296 = (c' : Int) := by omega
        subst hin
        rcases Nat.eq_zero_or_pos b' with h0 | h0
        · have hxo := b13.1 h0
          have e4 : (dg U (k + i) : Int) - (off : Int) = (y : Int) := by omega
          subst h0
          clear b1 b2 b3 b4 b5 b6 b7 b8 b9 b10 b12 b13 hS hDo hbw ho hol hbu hxU hcr hc' hc0 hv0 e1 e2
          go_wp2
          go_roundw
          case rel => exact ⟨i + 1, c', 0, o.set i y, by go_num, by go_num, rfl, by omega, Hb7.out, by omega, Hhc.out, hS', hD', hblk', ho'⟩
          case measure => simp [intOf]
        · have h01 : b' = 1 := by omega
          have hxo : dg U (k + i) < off := by
            rcases Nat.lt_or_ge (dg U (k + i)) off with h | h
            · exact h
            · have := b13.2 (by omega); omega
          have e4 : (dg U (k + i) : Int) + 4294967296 - (off : Int) = (y : Int) := by omega
          subst h01
          clear b1 b2 b3 b4 b5 b6 b7 b8 b9 b10 b12 b13 hS hDo hbw ho hol hbu hxU hcr hc' hc0 hv0 e1 e2
          go_wp2
          go_roundw
          case rel => exact ⟨i + 1, c', 1, o.set i y, by go_num, by go_num, rfl, by omega, Hb7.out, by omega, Hhc.out, hS', hD', hblk', ho'⟩
          case measure => simp [intOf]
    · have hin : i = n + 1 := by omega
      have hcz := hc0 (by omega)
      subst hin hcz
      have hDo' : Dig o := by rwa [List.take_of_length_le (by omega)] at hDo
      rw [← hol] at hS
      have hkl : k + o.length ≤ U.length := by rw [HUm.out]; omega
      have hle' : ¬ (n : Int) + 1 ≤ (n : Int) := by omega
      rcases Nat.eq_zero_or_pos b with h0 | h0
      · subst h0
        have hy := Lib.hid (hS.yes hkl)
        have hcp := copy_put _ g gw k (n + 1) (m - k) (n + 1) U o 3 hbu hbw hol (by rw [HUm.out]; omega) (by rw [HUm.out])
        have Hol := Lib.hid hol
        have Hkl := Lib.hid hkl
        clear hol hkl hS hDo
        have hbu2 := hbu.put (putAt U o k)
        have hbw2 : Blk (World.setRow _ g (nts (putAt U o k)).toArray) gw o := ((Only.refl g _).put _ |>.block gw (Ne.symm Hgg.out)).trans hbw
        have htwo := ho.two ((Only.refl g _).put (nts (putAt U o k)).toArray)
        go_wp2
        go_ret
        exact ⟨putAt U o k, hbu2, putAt_dig hDU hDo', (putAt_length Hkl.out).trans HUm.out, o, hbw2, Hol.out, htwo, .inl ⟨rfl, hy.out⟩⟩
      · have hb1 : b = 1 := by omega
        subst hb1
        have hno := Lib.hid (hS.no hDo' hDU (fun j hj => Hz.out j (by omega)) hkl)
        have Hol := Lib.hid hol
        clear hS hDo hol hkl
        go_wp2
        go_ret
        exact ⟨U, hbu, hDU, HUm.out, o, hbw, Hol.out, (Only.refl g _ |> fun r => ho.two r), .inr ⟨rfl, rfl, hno.out⟩⟩
end Go.Proofs.YtldhmjfjbalakaaGreat
