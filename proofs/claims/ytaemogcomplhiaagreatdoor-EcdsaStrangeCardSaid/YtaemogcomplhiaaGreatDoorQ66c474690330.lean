/- hashes: Write: bytes are taken in. zbyte: Append32, Append64, Put64; hashes: Copy, Sum. hashes: Sum: the hash of all that was taken in. hashes: HMAC with SHA-256, by a key of at most 64 bytes. hashes: the code of parts; HMAC. hashes: HMAC-SHA-256. drbg: the code of parts. drbg: the state; update. -/
import Derived.Test.YtaemogcomplhiaaGreatDoorQ9480644c98e0
import Derived.Deep.RegionWith
namespace Go.Proofs.YtaemogcomplhiaaGreatDoor
open Go.RowKit
open Sha
attribute [local go_sem] Oper.semAt_some

def rem (m : List Nat) : List Nat := m.drop (64 * (m.length / 64))
theorem rem_length (m : List Nat) : (rem m).length = m.length % 64 := by rw [rem, List.length_drop]; omega
theorem rem_app (m p : List Nat) : rem m ++ p = (m ++ p).drop (64 * (m.length / 64)) := by
 rw [rem, List.drop_append_of_le_length (by omega)]
theorem taken_step (s : St) {M all : List Nat} {q : Nat} (h : M.drop (64 * q) = all) (k : Nat) : taken s M (q + k + 1) = comp (taken s M (q + k)) (pc all k) := by
 rw [taken, pc, ← h, List.drop_drop, show 64 * (q + k) = 64 * q + 64 * k by omega]
structure Fr (b F : Nat) (w w' : World) : Prop where
 os : w'.os = w.os
 tape : w'.tape = w.tape
 output : w'.output = w.output
 size : w.heap.size ≤ w'.heap.size
 block : ∀ k, k < F → k ≠ b → w'.heap[k]? = w.heap[k]?
theorem Fr.refl (b F : Nat) (w : World) : Fr b F w w := ⟨rfl, rfl, rfl, Nat.le_refl _, fun _ _ _ => rfl⟩
theorem Fr.trans {b F : Nat} {x y z : World} (h : Fr b F x y) (k : Fr b F y z) : Fr b F x z := ⟨k.os.trans h.os, k.tape.trans h.tape, k.output.trans h.output, Nat.le_trans h.size k.size, fun i hi hn => (k.block i hi hn).trans (h.block i hi hn)⟩
theorem Fr.mono {b F G : Nat} {x y : World} (h : Fr b F x y) (hG : G ≤ F) : Fr b G x y := ⟨h.os, h.tape, h.output, h.size, fun i hi hn => h.block i (Nat.lt_of_lt_of_le hi hG) hn⟩
theorem Fr.below {b F G : Nat} {x y : World} (h : Below F x y) (hG : G ≤ F) : Fr b G x y := ⟨h.os, h.tape, h.output, h.size, fun i hi _ => h.block i (Nat.lt_of_lt_of_le hi hG)⟩
theorem Fr.just {b F : Nat} {x y : World} (h : Just b x y) (hF : F ≤ x.heap.size) : Fr b F x y := ⟨h.os, h.tape, h.output, h.size, fun i hi hn => h.block i (Nat.lt_of_lt_of_le hi hF) hn⟩
theorem Fr.justTo {b g F : Nat} {x y : World} (h : Just g x y) (hF : F ≤ g) (hx : F ≤ x.heap.size) : Fr b F x y := ⟨h.os, h.tape, h.output, h.size, fun i hi _ => h.block i (Nat.lt_of_lt_of_le hi hx) (by omega)⟩
theorem Fr.at_ {b F k : Nat} {x y : World} {o : Obj} (h : Fr b F x y) (hk : k < F) (hn : k ≠ b) (hx : x.heap[k]? = some o) : y.heap[k]? = some o := (h.block k hk hn).trans hx
theorem Fr.ext {b F : Nat} {x y : World} (h : Fr b F x y) (hb : x.heap.size ≤ b) (hF : x.heap.size ≤ F) : Ext x y := ⟨h.os, h.tape, h.output, h.size, fun i hi => h.block i (Nat.lt_of_lt_of_le hi hF) (by omega)⟩
theorem KW.fr {b F n : Nat} {s : List W} {wt : Value} {x y : World} (h : KW x) (hb : HB x b s wt n) (hf : Fr b F x y) (hF : 3 < F) : KW y := fun i hi => by
 obtain ⟨z, h1, h2⟩ := h i hi
 refine ⟨z, (World.cell?_of_block (hf.block _ hF ?_)).trans h1, h2⟩
 intro e
 obtain ⟨z0, h3, _⟩ := h 0 (by omega)
 have := hb.kind
 have e' : 3 = b := e
 rw [← e', h3] at this
 cases this
theorem KW.lt {w : World} (h : KW w) : 3 < w.heap.size := by
 obtain ⟨z, h1, _⟩ := h 0 (by omega)
 exact World.block_lt_of_cell? w _ h1
def HS (w : World) (b : Nat) (m : List Nat) (F : Nat) : Prop :=
 ∃ A c, HB w b (taken s256 m (m.length / 64)).list (.slice A (rem m).length c) m.length ∧ OW w F A c (rem m) ∧ (rem m = [] → A = none ∧ c = 0) ∧ m.length ≤ 500000
theorem HS.lt {w : World} {b F : Nat} {m : List Nat} (h : HS w b m F) : b < w.heap.size := let ⟨_, _, h, _⟩ := h; h.lt
theorem HB.no8 {w : World} {b n len c : Nat} {s : List W} {A : Option Addr} {q : Addr} {v : Int} (h : HB w b s (.slice A len c) n) (hq : w.cell? q = some (.int .u8 v)) : q.block ≠ b := by
 intro e
 unfold World.cell? at hq
 rw [e, h.1] at hq
 simp only at hq
 split at hq
 · cases hq
 · have hm := List.mem_of_getElem? (l := hcells s (.slice A len c) n) (i := q.off) (by simpa using hq)
   simp [hcells] at hm
theorem RB.by_ {w w' : World} {P : Nat → Prop} {A : Option Addr} {c : Nat} {bs : List Nat} (h : RB w P A c bs) (hk : ∀ (q : Addr) (v : Int), P q.block → w.cell? q = some (.int .u8 v) → w'.cell? q = some (.int .u8 v)) : RB w' P A c bs := by
 obtain ⟨⟨h1, h2, h3, h4⟩, h5⟩ := h
 refine ⟨⟨h1, h2, h3, fun hn => ?_⟩, h5⟩
 obtain ⟨ad, e, hb, hc⟩ := h4 hn
 refine ⟨ad, e, hb, fun j u hu => ?_⟩
 have h6 := hc j u hu
 obtain ⟨x, _, rfl⟩ := List.mem_map.1 (List.mem_of_getElem? hu)
 exact hk _ _ (by rw [block_of_add]; exact hb) h6
theorem two_at2' (w : World) (o1 o2 : Obj) : ((w.alloc o1).alloc o2).heap[w.heap.size]? = some o1 ∧ ((w.alloc o1).alloc o2).heap[w.heap.size + 1]? = some o2 ∧ ((w.alloc o1).alloc o2).heap.size = w.heap.size + 2 := by
 refine ⟨(Ext.alloc _ _).at_ (heap_alloc_new w o1), ?_, by simp⟩
 have := heap_alloc_new (w.alloc o1) o2
 rwa [World.size_alloc] at this
theorem keeps_just {B C g : Nat} {x y : World} {cs : Array Value} {t : TypeId} (h : Just g x y) (_hg : g < C) (hx : x.heap[g]? = some (.cells cs t (0, 0))) : Keeps B C 0 x y :=
 ⟨h.size, fun k o _ hk ho => h.at_ (fun e => by rw [e, hx] at hk; rw [← Option.some.inj hk] at ho; cases ho) hk, fun k h1 h2 => absurd h2 (by omega)⟩
theorem M_length {M all : List Nat} {q : Nat} (h : M.drop (64 * q) = all) (hq : 64 * q ≤ M.length) : M.length = 64 * q + all.length := by
 rw [← h, List.length_drop]; omega
section
variable {w : World} {ops : Array Oper} {rest : List Oper} {o : Oper} {a : Act} {Q : Exit → Act → World → Prop}
theorem app8g (hgd : o.guard = none) (s x : Operand) (ho : o.op = .call { callee := .builtin .append, args := #[s, x], argTypes := #[22, 22] }) (base : Nat) {A Au : Option Addr} {c cu : Nat} {bs cs : List Nat} {B : Nat → Prop}
 (hs : a.eval s = .slice A bs.length c) (hown : OW w base A c bs) (hx : a.eval x = .slice Au cs.length cu) (hr : RB w B Au cu cs) (hl : bs.length + cs.length ≤ 100000000) (hbase : base ≤ w.heap.size)
 (h : ∀ A' c' w', OW w' base A' c' (bs ++ cs) → w.grownBy w' (Value.slice A bs.length c).ownBlock → wpList Tryz.prog ops Q rest (a.put o.dst (.slice A' (bs ++ cs).length c')) w') : wpList Tryz.prog ops Q (o :: rest) a w := by
 obtain ⟨i0, hi, hz0, hz1, hz2⟩ := info_parts info8
 refine wpList_append_rs w hgd s x 22 ho base 5 i0 (.int .u8 0) 1 1 Tryz.underlying22 hi hz0 hz1 hz2 rfl (by decide) _ bs.length (bys bs) hs hown.1 B Au cs.length cu (bys cs) hx hr.1 (by intro u hu; obtain ⟨b, _, rfl⟩ := List.mem_map.1 hu; rfl) (bs.length + cs.length) rfl (by unfold maxLen; omega) (by omega) hbase ?_
 intro A' c' w' h1 h2 h3
 have hlen : (bs ++ cs).length = bs.length + cs.length := List.length_append
 refine (hlen ▸ h A' c' w' ⟨?_, ?_⟩ h2 : _)
 · rw [hlen, show bys (bs ++ cs) = bys bs ++ bys cs by simp [bys]]
   exact h1
 · intro b hb
   rcases List.mem_append.1 hb with hb | hb
   · exact hown.2 b hb
   · exact hr.2.1 b hb
end
theorem OW.own {w : World} {base : Nat} {A : Option Addr} {c : Nat} {bs : List Nat} (h : OW w base A c bs) {k : Nat} (hk : (Value.slice A bs.length c).ownBlock = some k) : base ≤ k ∧ ∃ cs, w.heap[k]? = some (.cells cs 5 (0, 0)) := by
 rcases h.1.2 with ⟨e, _⟩ | ⟨g, cap, cur, e, hg, hb, _⟩
 · injection e with e1
   subst e1
   cases hk
 · injection e with e1
   subst e1
   simp [Value.ownBlock] at hk
   subst hk
   exact ⟨hg, _, hb⟩
theorem OW.same {w w' : World} {base : Nat} {A : Option Addr} {c : Nat} {bs : List Nat} (h : OW w base A c bs) (hk : ∀ k, base ≤ k → ∀ cs, w.heap[k]? = some (.cells cs 5 (0, 0)) → w'.heap[k]? = some (.cells cs 5 (0, 0))) : OW w' base A c bs := by
 obtain ⟨⟨h1, h2⟩, h3⟩ := h
 refine ⟨⟨h1, ?_⟩, h3⟩
 rcases h2 with h2 | ⟨g, cap, cur, e, hg, hb, h4⟩
 · exact .inl h2
 · exact .inr ⟨g, cap, cur, e, hg, hk g hg _ hb, h4⟩
theorem HS.nil_up {w : World} {b F G : Nat} {m : List Nat} (h : HS w b m F) (hr : m.length % 64 = 0) : HS w b m G := by
 obtain ⟨A, c, h1, h2, h3, h4⟩ := h
 have hr' : rem m = [] := List.eq_nil_of_length_eq_zero (by rw [rem_length]; exact hr)
 obtain ⟨rfl, rfl⟩ := h3 hr'
 refine ⟨none, 0, h1, ⟨⟨by simp [bys], .inl ⟨by rw [hr']; rfl, by rw [hr']; rfl⟩⟩, by rw [hr']; simp⟩, h3, h4⟩
theorem HS.ext {w X : World} {b F : Nat} {m : List Nat} (h : HS w b m F) (hE : Ext w X) : HS X b m F := by
 obtain ⟨A, c, h1, h2, h3, h4⟩ := h
 exact ⟨A, c, h1.ext hE, h2.same fun k _ cs hk => hE.at_ hk, h3, h4⟩
theorem HS.fr {w X : World} {b b' F : Nat} {m : List Nat} (h : HS w b m F) (hf : Fr b' w.heap.size w X) {s : List W} {wt : Value} {n : Nat} (hb' : HB w b' s wt n) (hn : b ≠ b') : HS X b m F := by
 obtain ⟨A, c, h1, h2, h3, h4⟩ := h
 refine ⟨A, c, ⟨hf.at_ h1.lt hn h1.1, h1.2⟩, h2.same fun k _ cs hk => hf.at_ (blk_lt hk) (fun e => ?_) hk, h3, h4⟩
 rw [e, hb'.1] at hk
 injection Option.some.inj hk with _ e2
 exact absurd e2 (by decide)

set_option maxRecDepth 100000 in
set_option maxHeartbeats 8000000 in
theorem write_any {b F : Nat} {P : Nat → Prop} {A : Option Addr} {c : Nat} {m p : List Nat} (w : World) (hs : HS w b m F) (hk : KW w) (hp : RB w P A c p) (hP : ∀ k, P k → k < w.heap.size) (hbF : b < F) (hgF : 3 < F) (hF : F ≤ w.heap.size) (hl : (m ++ p).length ≤ 500000) :
 Calls Tryz.prog 137 #[.pointer (some ⟨b, 0, none⟩), .slice A p.length c] w fun e w' => e = .returned (.tuple #[]) ∧ HS w' b (m ++ p) w.heap.size ∧ Fr b F w w' := by
 obtain ⟨Aw, cw, hB, hO, hN, hm5⟩ := hs
 have hll := hl
 rw [List.length_append] at hl
 have zk := hk.lt
 have zb := hB.lt
 obtain ⟨g0, hg0⟩ : ∃ g, w.heap.size = g := ⟨_, rfl⟩
 have hE0 := Ext.alloc w (.cells #[.pointer (some ⟨b, 0, none⟩)] 171)
 have hx0 := heap_alloc_new w (.cells #[.pointer (some ⟨b, 0, none⟩)] 171)
 obtain ⟨W0, hW0⟩ : ∃ W0, w.alloc (.cells #[.pointer (some ⟨b, 0, none⟩)] 171) = W0 := ⟨_, rfl⟩
 rw [hW0] at hE0 hx0
 have hz0 : W0.heap.size = g0 + 1 := by rw [← hW0, World.size_alloc, hg0]
 rw [hg0] at hx0
 have HB0 := Lib.hid (hB.ext hE0)
 have HO0 := Lib.hid (hO.same fun k _ cs hk => hE0.at_ hk)
 have HP0 := Lib.hid (hp.below hE0 hP)
 have HK0 := Lib.hid (hk.ext hE0)
 have HE0 := Lib.hid hE0
 have HN := Lib.hid hN
 have Hz0 := Lib.hid hz0
 have Hm5 := Lib.hid hm5
 have HW0 := Lib.hid hW0
 have Hg0 := Lib.hid hg0
 have c0 := blk_cell hx0 0
 simp only [List.getElem?_toArray, List.getElem?_cons_zero] at c0
 have cn := HB0.out.num
 have fn0 := HB0.out.free 10
 have e1 : IntKind.u64.wrap (p.length : Int) = (p.length : Int) := by rw [IntKind.wrap_u64]; omega
 have e2 : IntKind.u64.wrap ((m.length : Int) + (p.length : Int)) = (((m ++ p).length : Nat) : Int) := by rw [IntKind.wrap_u64, List.length_append]; omega
 have hBn := HB0.out.setNum (m ++ p).length
 obtain ⟨M, hM⟩ : ∃ M, m ++ p = M := ⟨_, rfl⟩
 rw [hM] at e2 hBn
 clear hB hO hN hp hk hE0 hz0 hg0 hW0 hm5
 refine (callsIn_wide (n := 6)).1 ?_
 refine callsIn_of_wp_marks Tryz.func137 rfl trivial ?_ rfl
 simp only [Tryz.ntmps137, List.size_toArray, List.length_cons, List.length_nil, Nat.reduceAdd, Nat.reduceSub, Array.replicate_succ, Array.replicate_zero, List.push_toArray, List.append_toArray, List.nil_append, List.cons_append]
 refine wpIn_wide.2 ?_
 go_upto_region 2 with fail
 rw [HW0.out, Hg0.out]
 have hne0 : g0 ≠ b := by have := Hg0.out; omega
 have hj1 := (Just.refl b W0).set 10 (.int .u64 (M.length : Int))
 have hx1 := hj1.at_ hne0 hx0
 have HM := Lib.hid hM
 have Hll := Lib.hid hll
 clear hM hx0 hll
 go_upto_region 3 with fail
 clear c0 cn fn0 e1 e2
 have hO1 : OW (W0.setCell ⟨b, 10, none⟩ (.int .u64 (M.length : Int))) F Aw cw (rem m) := HO0.out.same fun k hk cs hb => hj1.at_ (by omega) hb
 have hP1 : RB (W0.setCell ⟨b, 10, none⟩ (.int .u64 (M.length : Int))) P A c p := HP0.out.by_ fun q v _ hq => (hj1.cell (World.block_lt_of_cell? _ _ hq) (HB0.out.no8 hq)).trans hq
 have HK1 := Lib.hid (KW.fr (F := W0.heap.size) HK0.out HB0.out (Fr.just hj1 (Nat.le_refl _)) HK0.out.lt)
 have hz1 : (W0.setCell ⟨b, 10, none⟩ (.int .u64 (M.length : Int))).heap.size = g0 + 1 := by rw [← Hz0.out]; simp [World.setCell]
 have HF1 := Lib.hid (Fr.trans (Fr.below (b := b) HE0.out hF) (Fr.just hj1 (by have := HE0.out.bsize; omega)))
 generalize W0.setCell ⟨b, 10, none⟩ (.int .u64 (M.length : Int)) = W1 at *
 have cw1 := hBn.wait
 have c0 := blk_cell hx1 0
 simp only [List.getElem?_toArray, List.getElem?_cons_zero] at c0
 have Hz1 := Lib.hid hz1
 have HO1 := Lib.hid hO1
 have hrl := rem_length m
 have hbase : F ≤ W1.heap.size := by rw [hz1]; have := Hg0.out; omega
 have hlen : (rem m).length + p.length ≤ 100000000 := by omega
 clear hj1 hz1 hrl
 go_upto_region 4 with (at_builtin; refine app8g rfl (.tmp 22) (.tmp 23) rfl F rfl hO1 rfl hP1 hlen hbase ?_; intro A2 c2 W2 ho2 hg2)
 obtain ⟨all, hall⟩ : ∃ l, rem m ++ p = l := ⟨_, rfl⟩
 rw [hall] at ho2
 have hal : (rem m).length + p.length = all.length := by rw [← hall, List.length_append]
 have haq : M.drop (64 * (m.length / 64)) = all := by rw [← HM.out, ← rem_app, hall]
 have hown : ∀ k (o : Obj), W1.heap[k]? = some o → (∀ cs, o ≠ .cells cs 5 (0, 0)) → W2.heap[k]? = some o := fun k o hk hno => (hg2.block k (blk_lt hk) (fun e => by
  obtain ⟨_, cs, hc⟩ := HO1.out.own e.symm
  rw [hk] at hc
  exact hno cs (Option.some.inj hc))).trans hk
 have hlowB : Fr b F W1 W2 := ⟨hg2.os, hg2.tape, hg2.output, hg2.size, fun k hk _ => hg2.block k (by omega) (fun e => by have := (HO1.out.own e.symm).1; omega)⟩
 have hB2 : HB W2 b (taken s256 m (m.length / 64)).list (.slice Aw (rem m).length cw) M.length := ⟨hown _ _ hBn.1 (by intro cs e; injection e with _ e2; exact absurd e2 (by decide)), hBn.2⟩
 have hx2 := hown _ _ hx1 (by intro cs e; injection e with _ e2; exact absurd e2 (by decide))
 have HF2 := Lib.hid (HF1.out.trans hlowB)
 have HK2 := Lib.hid (HK1.out.fr hBn hlowB hgF)
 have hz2 : g0 + 1 ≤ W2.heap.size := by rw [← Hz1.out]; exact hg2.size
 have Hall := Lib.hid hall
 have Hal := Lib.hid hal
 have Haq := Lib.hid haq
 rw [hal]
 clear hown hlowB hg2 hx1 hBn hO1 hP1 HO1 hall haq hal HK1 HF1 c0 cw1 hlen hbase Hz1 HB0 HO0 HP0 HK0
 have c0 := blk_cell hx2 0
 simp only [List.getElem?_toArray, List.getElem?_cons_zero] at c0
 have cw2 := hB2.wait
 have fw2 := hB2.free 9
 have hj2 := (Just.refl b W2).set 9 (.slice none 0 0)
 have hB3 := hB2.setWait (.slice none 0 0)
 have hx3 := hj2.at_ hne0 hx2
 have ho3 : OW (W2.setCell ⟨b, 9, none⟩ (.slice none 0 0)) F A2 c2 all := ho2.same fun k hk cs hb => hj2.at_ (by omega) hb
 have HF3 := Lib.hid (HF2.out.trans (Fr.just hj2 (by have := Hg0.out; omega)))
 have HK3 := Lib.hid (HK2.out.fr hB2 (Fr.just hj2 (Nat.le_refl _)) HK2.out.lt)
 have hz3 : g0 + 1 ≤ (W2.setCell ⟨b, 9, none⟩ (.slice none 0 0)).heap.size := by simp [World.setCell]; exact hz2
 have HO3 := Lib.hid ho3
 clear hx2 hB2 ho2 HF2 HK2 hj2 hz2 ho3
 go_upto_region 5 with fail
 clear c0 cw2 fw2
 generalize W2.setCell ⟨b, 9, none⟩ (.slice none 0 0) = W3 at *
 have c0 := blk_cell hx3 0
 simp only [List.getElem?_toArray, List.getElem?_cons_zero] at c0
 have ck := hB3.kind
 go_wp2_with fail
 refine (block3 _).mono ?_
 rintro e W4 ⟨rfl, rfl⟩
 go_wp2_with fail
 refine (chunks_any _ _ _ _).mono ?_
 rintro e W5 ⟨rfl, rfl⟩
 obtain ⟨D, hD⟩ : ∃ D, W4.heap.size = D := ⟨_, rfl⟩
 obtain ⟨hbb, hbn, hz6⟩ := two_at2' W4 (.cells #[.slice A2 all.length c2] 22) (.cells #[.int .i64 64] 3)
 have hE6 : Ext W4 ((W4.alloc (.cells #[.slice A2 all.length c2] 22)).alloc (.cells #[.int .i64 64] 3)) := (Ext.alloc _ _).trans (Ext.alloc _ _)
 rw [hD] at hbb hbn hz6 hz3 ⊢
 generalize (W4.alloc (.cells #[.slice A2 all.length c2] 22)).alloc (.cells #[.int .i64 64] 3) = W6 at *
 have hB6 := hB3.ext hE6
 have hx6 := hE6.at_ hx3
 have hO6 : OW W6 F A2 c2 all := HO3.out.same fun k _ cs hb => hE6.at_ hb
 have hR4 := HO3.out.rb (by have := Hal.out; have := rem_length m; omega)
 rw [hD] at hR4
 have hcap := hR4.cap
 have hR6 : RB W6 (In F D) A2 c2 all := hR4.below hE6 (fun k hk => by rw [hD]; exact hk.2)
 have HF6 := Lib.hid (HF3.out.trans (Fr.below hE6 (by have := Hg0.out; omega)))
 have HK6 := Lib.hid (HK3.out.ext hE6)
 have HB6 := Lib.hid hB6
 have HR6 := Lib.hid hR6
 have HX6 := Lib.hid hx6
 have zbD : b < D := by have := Hg0.out; omega
 have hal5 : all.length ≤ 1000000 := by have := Hal.out; have := rem_length m; omega
 have hseq := Lib.hid (chunks_seq (P := In F D) all W6 hbb hbn (by omega) hcap.1 (by unfold maxLen; omega) hal5 (fun k hk => ⟨by have := hk.2; omega, by have := hk.2; omega⟩))
 obtain ⟨q, hq⟩ : ∃ q, m.length / 64 = q := ⟨_, rfl⟩
 have Hq := Lib.hid hq
 rw [hq, ← taken_append s256 m p q (by omega), HM.out] at HB6
 have hHaq := Haq.out
 rw [hq] at hHaq
 have HAQ := Lib.hid hHaq
 have hInv : OwnFrom W6.heap.size (fun (k : Nat) X => HB X b (taken s256 M (q + k)).list (.slice none 0 0) M.length ∧ Fr b D W6 X ∧ 64 * k ≤ all.length) := by
  rintro k X X' row ⟨h1, h2, h0⟩ hg hr
  have hr' := fun r e => (hr r e).2
  refine ⟨⟨(grownBy_keeps_cells hg hr' h1.1 rfl).trans h1.1, h1.2⟩, h2.trans ⟨hg.os, hg.tape, hg.output, hg.size, fun i hi _ => hg.block i (by have := h2.size; omega) (fun e => by have := (hr i e.symm).1; omega)⟩, h0⟩
 clear c0 ck hB3 hx3 hE6 hbb hbn hO6 hR4 hR6 hB6 hx6 hq hHaq
 go_wp2_with fail
 refine (wpIn_wide (n := 6)).1 ?_
 refine' wpIn_iterV (by omega) (gf := 158) (lb := #[.pointer (some ⟨D + 1, 0, none⟩), .pointer (some ⟨D, 0, none⟩)]) rfl (enters_of Tryz.func158 (by kernel_rfl) rfl)
  hseq.out (fun h k => KBox.trans h k) (fun X l o o' hl _ _ _ => ⟨World.putObj_heap_other (by omega), World.putObj_heap_other (by omega)⟩) (tbox_keeps D) (Below.refl _ _) (fun _ _ => rfl)
  (fun k v X l o o' hV hl hc => ?hVp)
  (fun k X => HB X b (taken s256 M (q + k)).list (.slice none 0 0) M.length ∧ Fr b D W6 X ∧ 64 * k ≤ all.length) (fun k X => HB X b (taken s256 M (q + k)).list (.slice none 0 0) M.length ∧ Fr b D W6 X ∧ 64 * k ≤ all.length)
  (fun cc k X => cc = .ret ∧ ∃ k0 A5 c5, k = k0 + 1 ∧ HB X b (taken s256 M (q + k0)).list (.slice A5 (pc all k0).length c5) M.length ∧ OW X W6.heap.size A5 c5 (pc all k0) ∧ (pc all k0).length < 64 ∧ Fr b D W6 X)
  hInv hInv ?hIx (fun k X _ hi => ?hNd) (fun B k X X' _ _ hi ht => ?hIT) (fun h => by cases h) ⟨HB6.out, Fr.refl _ _ _, Nat.zero_le _⟩ _ ?assign ?body ?done ?stop
 case hVp =>
  obtain ⟨A5, c5, e, h5⟩ := hV
  exact ⟨A5, c5, e, h5.same fun i _ cs hb => (World.putObj_heap_other (fun e => by subst e; rw [hl] at hb; cases hb; cases hc)).trans hb⟩
 case hIx =>
  rintro cc k X X' row ⟨rfl, k0, A5, c5, rfl, h1, h2, h3, h4⟩ hg hr
  have hr' := fun r e => (hr r e).2
  exact ⟨rfl, k0, A5, c5, rfl, ⟨(grownBy_keeps_cells hg hr' h1.1 rfl).trans h1.1, h1.2⟩, h2.same (fun i _ cs hb => (grownBy_keeps_cells hg hr' hb rfl).trans hb), h3, h4.trans ⟨hg.os, hg.tape, hg.output, hg.size, fun i hi _ => hg.block i (by have := h4.size; omega) (fun e => by have := (hr i e.symm).1; omega)⟩⟩
 case hNd =>
  exact HR6.out.by_ fun q' v hq' hc' => (World.cell?_of_block (hi.2.1.block _ hq'.2 (HB6.out.no8 hc'))).trans hc'
 case hIT =>
  exact ⟨⟨ht.1.at_ (by omega) hi.1.1, hi.1.2⟩, hi.2.1.trans (Fr.justTo ht.1 (Nat.le_refl _) (by have := hi.2.1.size; omega)), hi.2.2⟩
 case assign =>
  intro l k v X K hK
  gi_wp2
  exact hK
 case body =>
  rintro l k v Xb ⟨h1, h2, h0⟩ ⟨A5, c5, rfl, h5⟩ hlt _
  have hx := h2.at_ (by omega) hne0 HX6.out
  have c0 := blk_cell hx 0
  simp only [List.getElem?_toArray, List.getElem?_cons_zero] at c0
  have ck := h1.kind
  have H1 := Lib.hid h1
  have H2 := Lib.hid h2
  have H5 := Lib.hid h5
  have hpl : (pc all k).length = min 64 (all.length - 64 * k) := by rw [pc, List.length_take, List.length_drop]
  obtain ⟨n5, hn5⟩ : ∃ n, (pc all k).length = n := ⟨_, rfl⟩
  have Hn5 := Lib.hid hn5
  rw [hn5] at hpl ⊢
  have Hpl := Lib.hid hpl
  clear h1 h2 h5 hn5 hpl
  gi_upto_region 7 with fail
  by_cases h64 : n5 < 64
  · have t64 : (n5 : Int) < 64 := by omega
    refine Par.region_txt_in 8 [0, 1, 0, 4, 12, 28, 60, 127] [] (fun j f X => match j with
     | 0 => f 0 = .slice A5 n5 c5
     | 1 => f 1 = .int .i64 (n5 : Int)
     | 2 => f 2 = .pointer (some ⟨b, 0, none⟩)
     | 3 => f 3 = .pointer (some ⟨b, 0, none⟩)
     | 4 => f 4 = .pointer (some ⟨b, 0, none⟩)
     | 5 => f 5 = .int .i64 3
     | 6 => f 6 = .int .i64 64
     | 7 => f 7 = .bool true
     | _ => True) (by kernel_rfl) [(37, 0), (38, 1), (39, 2), (40, 3), (41, 4), (42, 5), (43, 6), (44, 7)] (by kernel_rfl) (by kernel_rfl) ?_
    refine Par.S 1 7 [(39, 2), (40, 3), (41, 4), (42, 5), (43, 6)] (fun f X hX hR K hK => ?_) ?_
    · simp only [yA, yB, yC, yD, yE]
      refine ⟨?_⟩
      go_simp
      exact Par.k hK (s := by simp only [yA, yB, yC, yD, yE])
    refine Par.S 2 6 [(37, 0), (39, 2), (40, 3), (41, 4), (42, 5), (43, 6)] (fun f X hX hR K hK => ?_) ?_
    · have e0 : f 0 = _ := hR.out 0 rfl
      simp only [yA, yB, yC, yD, yE, e0]
      refine ⟨?_⟩
      go_simp
      exact Par.k hK (s := by simp only [yA, yB, yC, yD, yE, e0])
    refine Par.S 3 5 [(37, 0), (38, 1)] (fun f X hX hR K hK => ?_) ?_
    · have x0 := hX.cell c0
      simp only [yA, yB, yC, yD, yE]
      refine ⟨?_⟩
      go_simp
      exact Par.k hK (s := by simp only [yA, yB, yC, yD, yE])
    refine Par.S 4 4 [(37, 0), (38, 1), (39, 2)] (fun f X hX hR K hK => ?_) ?_
    · have e2 : f 2 = _ := hR.out 2 rfl
      simp only [yA, yB, yC, yD, yE, e2]
      refine ⟨?_⟩
      go_simp
      exact Par.k hK (s := by simp only [yA, yB, yC, yD, yE, e2])
    refine Par.S 5 3 [(37, 0), (38, 1), (39, 2), (40, 3)] (fun f X hX hR K hK => ?_) ?_
    · have e3 : f 3 = _ := hR.out 3 rfl
      simp only [yA, yB, yC, yD, yE, e3]
      refine ⟨?_⟩
      go_simp
      exact Par.k hK (s := by simp only [yA, yB, yC, yD, yE, e3])
    refine Par.S 6 2 [(37, 0), (38, 1), (39, 2), (40, 3), (41, 4)] (fun f X hX hR K hK => ?_) ?_
    · have e4 : f 4 = _ := hR.out 4 rfl
      have x0 := hX.cell ck
      simp only [yA, yB, yC, yD, yE, e4]
      refine ⟨?_⟩
      go_simp
      exact Par.k hK (s := by simp only [yA, yB, yC, yD, yE, e4])
    refine Par.S 7 1 [(37, 0), (38, 1), (39, 2), (40, 3), (41, 4), (42, 5)] (fun f X hX hR K hK => ?_) ?_
    · have e5 : f 5 = _ := hR.out 5 rfl
      simp only [yA, yB, yC, yD, yE, e5]
      refine ⟨?_⟩
      go_simp
      refine (block3 _).mono ?_
      rintro e w2 ⟨rfl, rfl⟩
      exact hK.out _ _ _ (by simp only [yA, yB, yC, yD, yE, e5]) (Ext.refl _) trivial (fun _ _ => rfl)
    refine Par.S 8 0 [(37, 0), (38, 1), (39, 2), (40, 3), (41, 4), (42, 5), (43, 6)] (fun f X hX hR K hK => ?_) ?_
    · have e1 : f 1 = _ := hR.out 1 rfl
      have e6 : f 6 = _ := hR.out 6 rfl
      simp only [yA, yB, yC, yD, yE, e1, e6]
      refine ⟨?_⟩
      go_simp
      exact Par.k hK (s := by simp only [yA, yB, yC, yD, yE, e1, e6])
    refine Par.AllOps.fin ⟨fun f X hX hR hal hap => ?_⟩
    have e0 : f 0 = _ := hR 0 (by decide)
    have e1 : f 1 = _ := hR 1 (by decide)
    have e2 : f 2 = _ := hR 2 (by decide)
    have e3 : f 3 = _ := hR 3 (by decide)
    have e4 : f 4 = _ := hR 4 (by decide)
    have e5 : f 5 = _ := hR 5 (by decide)
    have e6 : f 6 = _ := hR 6 (by decide)
    have e7 : f 7 = _ := hR 7 (by decide)
    simp only [yA, yB, yD, yE, e0, e1, e2, e3, e4, e5, e6, e7]
    clear hR hal hap e0 e1 e2 e3 e4 e5 e6 e7
    refine Par.Chain.done ?_
    refine ⟨nofun, ?_⟩
    have HX := Lib.hid hX
    replace H1 := Lib.hid (H1.out.ext hX)
    replace H2 := Lib.hid (H2.out.trans (Fr.below hX (by have := H2.out.size; omega)))
    replace H5 := Lib.hid (H5.out.same fun i _ cs hb => hX.at_ hb)
    replace hx := hX.at_ hx
    have c0 := blk_cell hx 0
    simp only [List.getElem?_toArray, List.getElem?_cons_zero] at c0
    have cw := H1.out.wait
    have fw := H1.out.free 9
    have hj := (Just.refl b X).set 9 (.slice A5 n5 c5)
    have HB9 := Lib.hid (H1.out.setWait (.slice A5 n5 c5))
    have HF9 := Lib.hid (H2.out.trans (Fr.just hj (by have := H2.out.size; omega)))
    have HO9 := Lib.hid (H5.out.same fun i hi cs hb => hj.at_ (by omega) hb)
    have HK9 := Lib.hid ((Keeps.below (B := W6.heap.size) (C := W6.heap.size + 2) (m := 0) hX (Nat.le_refl _)).trans (Keeps.setCell _ _ _ X (a := ⟨b, 9, none⟩) (.inl (by show b < _; omega)) (.slice A5 n5 c5)))
    clear hX hj hx ck
    gi_wp2
    exact ⟨HK9.out, rfl, k, A5, c5, rfl, by rw [Hn5.out]; exact HB9.out, HO9.out, by rw [Hn5.out]; exact h64, HF9.out⟩
  · obtain rfl : n5 = 64 := by have := Hpl.out; omega
    have t64 : ¬ ((64 : Nat) : Int) < 64 := by omega
    refine Par.region_txt_in 8 [0, 1, 0, 4, 12, 28, 60, 127] [] (fun j f X => match j with
     | 0 => f 0 = .slice A5 64 c5
     | 1 => f 1 = .int .i64 64
     | 2 => f 2 = .pointer (some ⟨b, 0, none⟩)
     | 3 => f 3 = .pointer (some ⟨b, 0, none⟩)
     | 4 => f 4 = .pointer (some ⟨b, 0, none⟩)
     | 5 => f 5 = .int .i64 3
     | 6 => f 6 = .int .i64 64
     | 7 => f 7 = .bool false
     | _ => True) (by kernel_rfl) [(37, 0), (38, 1), (39, 2), (40, 3), (41, 4), (42, 5), (43, 6), (44, 7)] (by kernel_rfl) (by kernel_rfl) ?_
    refine Par.S 1 7 [(39, 2), (40, 3), (41, 4), (42, 5), (43, 6)] (fun f X hX hR K hK => ?_) ?_
    · simp only [yA, yB, yC, yD, yE]
      refine ⟨?_⟩
      go_simp
      exact Par.k hK (s := by simp only [yA, yB, yC, yD, yE])
    refine Par.S 2 6 [(37, 0), (39, 2), (40, 3), (41, 4), (42, 5), (43, 6)] (fun f X hX hR K hK => ?_) ?_
    · have e0 : f 0 = _ := hR.out 0 rfl
      simp only [yA, yB, yC, yD, yE, e0]
      refine ⟨?_⟩
      go_simp
      exact Par.k hK (s := by simp only [yA, yB, yC, yD, yE, e0])
    refine Par.S 3 5 [(37, 0), (38, 1)] (fun f X hX hR K hK => ?_) ?_
    · have x0 := hX.cell c0
      simp only [yA, yB, yC, yD, yE]
      refine ⟨?_⟩
      go_simp
      exact Par.k hK (s := by simp only [yA, yB, yC, yD, yE])
    refine Par.S 4 4 [(37, 0), (38, 1), (39, 2)] (fun f X hX hR K hK => ?_) ?_
    · have e2 : f 2 = _ := hR.out 2 rfl
      simp only [yA, yB, yC, yD, yE, e2]
      refine ⟨?_⟩
      go_simp
      exact Par.k hK (s := by simp only [yA, yB, yC, yD, yE, e2])
    refine Par.S 5 3 [(37, 0), (38, 1), (39, 2), (40, 3)] (fun f X hX hR K hK => ?_) ?_
    · have e3 : f 3 = _ := hR.out 3 rfl
      simp only [yA, yB, yC, yD, yE, e3]
      refine ⟨?_⟩
      go_simp
      exact Par.k hK (s := by simp only [yA, yB, yC, yD, yE, e3])
    refine Par.S 6 2 [(37, 0), (38, 1), (39, 2), (40, 3), (41, 4)] (fun f X hX hR K hK => ?_) ?_
    · have e4 : f 4 = _ := hR.out 4 rfl
      have x0 := hX.cell ck
      simp only [yA, yB, yC, yD, yE, e4]
      refine ⟨?_⟩
      go_simp
      exact Par.k hK (s := by simp only [yA, yB, yC, yD, yE, e4])
    refine Par.S 7 1 [(37, 0), (38, 1), (39, 2), (40, 3), (41, 4), (42, 5)] (fun f X hX hR K hK => ?_) ?_
    · have e5 : f 5 = _ := hR.out 5 rfl
      simp only [yA, yB, yC, yD, yE, e5]
      refine ⟨?_⟩
      go_simp
      refine (block3 _).mono ?_
      rintro e w2 ⟨rfl, rfl⟩
      exact hK.out _ _ _ (by simp only [yA, yB, yC, yD, yE, e5]) (Ext.refl _) trivial (fun _ _ => rfl)
    refine Par.S 8 0 [(37, 0), (38, 1), (39, 2), (40, 3), (41, 4), (42, 5), (43, 6)] (fun f X hX hR K hK => ?_) ?_
    · have e1 : f 1 = _ := hR.out 1 rfl
      have e6 : f 6 = _ := hR.out 6 rfl
      simp only [yA, yB, yC, yD, yE, e1, e6]
      refine ⟨?_⟩
      go_simp
      exact Par.k hK (s := by simp only [yA, yB, yC, yD, yE, e1, e6])
    refine Par.AllOps.fin ⟨fun f X hX hR hal hap => ?_⟩
    have e0 : f 0 = _ := hR 0 (by decide)
    have e1 : f 1 = _ := hR 1 (by decide)
    have e2 : f 2 = _ := hR 2 (by decide)
    have e3 : f 3 = _ := hR 3 (by decide)
    have e4 : f 4 = _ := hR 4 (by decide)
    have e5 : f 5 = _ := hR 5 (by decide)
    have e6 : f 6 = _ := hR 6 (by decide)
    have e7 : f 7 = _ := hR 7 (by decide)
    simp only [yA, yB, yD, yE, e0, e1, e2, e3, e4, e5, e6, e7]
    clear hR hal hap e0 e1 e2 e3 e4 e5 e6 e7
    refine Par.Chain.done ?_
    refine ⟨nofun, ?_⟩
    have HX := Lib.hid hX
    replace H1 := Lib.hid (H1.out.ext hX)
    replace H2 := Lib.hid (H2.out.trans (Fr.below hX (by have := H2.out.size; omega)))
    replace H5 := Lib.hid (H5.out.same fun i _ cs hb => hX.at_ hb)
    replace hx := hX.at_ hx
    have c0 := blk_cell hx 0
    simp only [List.getElem?_toArray, List.getElem?_cons_zero] at c0
    clear hX hx ck
    have HKX := Lib.hid (HK6.out.fr HB6.out H2.out (by have := Hg0.out; omega))
    have htk := Lib.hid (take3 b (taken s256 M (q + k)) (.slice none 0 0) M.length (In W6.heap.size X.heap.size) A5 c5 (pc all k) X H1.out HKX.out (H5.out.rb (by rw [Hn5.out]; omega)) Hn5.out (fun i hi => hi.2))
    gi_wp2
    refine ⟨trivial, (callsIn_wide.2 htk.out).mono ?_⟩
    rintro e w9 ⟨rfl, h9, hj9⟩
    rw [← taken_step s256 HAQ.out k] at h9
    have H9 := Lib.hid h9
    have HF9 := Lib.hid (H2.out.trans (Fr.just hj9 (by have := H2.out.size; omega)))
    have HK9 := Lib.hid (show Keeps W6.heap.size (W6.heap.size + 2) 0 Xb w9 from (Keeps.below HX.out (Nat.le_refl _)).trans (keeps_just hj9 (by omega) H1.out.1))
    have HB9 := Lib.hid (show KBox D (D + 1) Xb w9 from ⟨(hj9.block D (by have := HX.out.bsize; omega) (by omega)).trans (HX.out.block D (by omega)), (hj9.block (D + 1) (by have := HX.out.bsize; omega) (by omega)).trans (HX.out.block (D + 1) (by omega))⟩)
    clear h9 hj9
    gi_wp2
    exact ⟨HK9.out, HB9.out, H9.out, HF9.out, by have := Hpl.out; omega⟩
 case done =>
  rintro D2 X hD2 ⟨h1, h2, h0⟩ hK
  have hFY := h2.trans (y := X) (z := X.putObj D2 (.deferred none)) ⟨rfl, rfl, rfl, by simp, fun i hi _ => World.putObj_heap_other (by omega)⟩
  have hBY : HB (X.putObj D2 (.deferred none)) b (taken s256 M (q + (all.length + 63) / 64)).list (.slice none 0 0) M.length := ⟨(World.putObj_heap_other (by omega)).trans h1.1, h1.2⟩
  have hML := M_length HAQ.out (by rw [← HM.out, List.length_append]; have := Hq.out; omega)
  rw [show q + (all.length + 63) / 64 = M.length / 64 by omega] at hBY
  have hr : rem M = [] := List.eq_nil_of_length_eq_zero (by rw [rem_length]; omega)
  have hS : HS (X.putObj D2 (.deferred none)) b (m ++ p) w.heap.size := by
   rw [HM.out]
   refine ⟨none, 0, by rw [hr]; exact hBY, ⟨⟨by simp [bys], .inl ⟨by rw [hr]; rfl, by rw [hr]; rfl⟩⟩, by rw [hr]; simp⟩, fun _ => ⟨rfl, rfl⟩, by rw [← HM.out]; exact Hll.out⟩
  have hF9 := HF6.out.trans (hFY.mono (by have := Hg0.out; omega))
  have HS9 := Lib.hid hS
  have HF9 := Lib.hid hF9
  clear hS hF9 hFY hBY h1 h2 hML hr
  gi_wp2
  exact ⟨by simp, .inl ⟨_, _, rfl, run_takeDeferred hK, _, results_none rfl _ _ _, rfl, HS9.out, HF9.out⟩⟩
 case stop =>
  rintro D2 cc k X hD2 hk0 hk ⟨rfl, k0, A5, c5, rfl, h1, h2, h3, h4⟩ hK
  have hFY := h4.trans (y := X) (z := X.putObj D2 (.deferred none)) ⟨rfl, rfl, rfl, by simp, fun i hi _ => World.putObj_heap_other (by omega)⟩
  have hBY : HB (X.putObj D2 (.deferred none)) b (taken s256 M (q + k0)).list (.slice A5 (pc all k0).length c5) M.length := ⟨(World.putObj_heap_other (by omega)).trans h1.1, h1.2⟩
  have hML := M_length HAQ.out (by rw [← HM.out, List.length_append]; have := Hq.out; omega)
  have hpl : (pc all k0).length = min 64 (all.length - 64 * k0) := by rw [pc, List.length_take, List.length_drop]
  have hqk : M.length / 64 = q + k0 := by omega
  have hr : rem M = pc all k0 := by
   rw [rem, hqk, pc, ← HAQ.out, List.drop_drop, show 64 * (q + k0) = 64 * q + 64 * k0 by omega, List.take_of_length_le (by rw [List.length_drop]; omega)]
  have hOY : OW (X.putObj D2 (.deferred none)) W6.heap.size A5 c5 (pc all k0) := h2.same fun i _ cs hb => (World.putObj_heap_other (fun e => by subst e; rw [hK] at hb; cases hb)).trans hb
  have hS : HS (X.putObj D2 (.deferred none)) b (m ++ p) w.heap.size := by
   rw [HM.out]
   refine ⟨A5, c5, by rw [hr, hqk]; exact hBY, by rw [hr]; exact hOY.mono (by have := Hg0.out; omega), fun e => ?_, by rw [← HM.out]; exact Hll.out⟩
   rw [hr] at e
   rw [e] at hpl
   simp at hpl
   omega
  have hF9 := HF6.out.trans (hFY.mono (by have := Hg0.out; omega))
  have HS9 := Lib.hid hS
  have HF9 := Lib.hid hF9
  clear hS hF9 hFY hBY h1 h2 h3 h4 hML hr hpl hqk hOY
  gi_wp2
  exact ⟨by simp, .inl ⟨_, _, rfl, run_takeDeferred hK, _, results_none rfl _ _ _, rfl, HS9.out, HF9.out⟩⟩
end Go.Proofs.YtaemogcomplhiaaGreatDoor

namespace Go.Proofs.YtaemogcomplhiaaGreatDoor
open Go.RowKit
open Sha

theorem rb_lit (w : World) (cs : Array Value) (bs : List Nat) (h : cs.toList = bys bs) (hb : ∀ b ∈ bs, b < 256) (hl : bs.length ≤ 1000) : RB (w.alloc (.cells cs 5)) (fun b => b = w.heap.size) (some ⟨w.heap.size, 0, none⟩) bs.length bs := by
 have hs : cs.size = bs.length * 1 := by rw [← Array.length_toList, h]; simp [bys]
 have := RS.fresh (w := w) (P := fun b => b = w.heap.size) cs 5 1 bs.length hs (by unfold maxLen; omega) rfl
 rw [h] at this
 exact ⟨this, hb, by omega⟩
theorem bys_byt (n : Nat) : bys (byt n) = [.int .u8 ((n : Int) / 16777216 % 256), .int .u8 ((n : Int) / 65536 % 256), .int .u8 ((n : Int) / 256 % 256), .int .u8 ((n : Int) % 256)] := by
 simp [bys, byt]
theorem RS.cell_ {w : World} {P : Nat → Prop} {size n c : Nat} {ad : Addr} {cs : List Value} (h : RS w P size (some ad) n c cs) {j : Nat} {v : Value} (hv : cs[j]? = some v) : w.cell? (ad.add j) = some v := by
 obtain ⟨_, _, h3, h4⟩ := h
 have hn : 0 < n := by
  rcases Nat.eq_zero_or_pos n with h0 | h0
  · rw [h0, Nat.zero_mul] at h3
    rw [List.eq_nil_of_length_eq_zero h3] at hv
    cases hv
  · exact h0
 obtain ⟨a, e, _, hc⟩ := h4 hn
 injection e with e
 subst e
 exact hc j v hv
def byt8 (n : Nat) : List Nat := [n / 72057594037927936 % 256, n / 281474976710656 % 256, n / 1099511627776 % 256, n / 4294967296 % 256, n / 16777216 % 256, n / 65536 % 256, n / 256 % 256, n % 256]
theorem byt8_eq (n : Nat) : byt8 n = byt (n / 4294967296) ++ byt (n % 4294967296) := by
 have e1 : n / 72057594037927936 % 256 = n / 4294967296 / 16777216 % 256 := by omega
 have e2 : n / 281474976710656 % 256 = n / 4294967296 / 65536 % 256 := by omega
 have e3 : n / 1099511627776 % 256 = n / 4294967296 / 256 % 256 := by omega
 have e5 : n / 16777216 % 256 = n % 4294967296 / 16777216 % 256 := by omega
 have e6 : n / 65536 % 256 = n % 4294967296 / 65536 % 256 := by omega
 have e7 : n / 256 % 256 = n % 4294967296 / 256 % 256 := by omega
 have e8 : n % 256 = n % 4294967296 % 256 := by omega
 rw [byt8, e1, e2, e3, e5, e6, e7, e8]
 rfl
theorem byt8_lt (n : Nat) : ∀ x ∈ byt8 n, x < 256 := by
 intro x hx
 simp only [byt8, List.mem_cons, List.not_mem_nil, or_false] at hx
 omega
theorem bys_byt8 (n : Nat) : bys (byt8 n) = [.int .u8 ((n : Int) / 72057594037927936 % 256), .int .u8 ((n : Int) / 281474976710656 % 256), .int .u8 ((n : Int) / 1099511627776 % 256), .int .u8 ((n : Int) / 4294967296 % 256), .int .u8 ((n : Int) / 16777216 % 256), .int .u8 ((n : Int) / 65536 % 256), .int .u8 ((n : Int) / 256 % 256), .int .u8 ((n : Int) % 256)] := by
 simp [bys, byt8]
set_option maxRecDepth 100000 in
set_option maxHeartbeats 2000000 in
theorem append32_o (x : W) {base : Nat} {A : Option Addr} {c : Nat} {bs : List Nat} (w : World) (h : OW w base A c bs) (hbase : base ≤ w.heap.size) (hl : bs.length ≤ 1000) :
 Calls Tryz.prog 148 #[.slice A bs.length c, .int .u32 (x.toNat : Int)] w fun e w' => ∃ A' c', e = .returned (.slice A' (bs ++ byt x.toNat).length c') ∧ OW w' base A' c' (bs ++ byt x.toNat) ∧ Below base w w' := by
 obtain ⟨n, hn⟩ : ∃ n, x.toNat = n := ⟨_, rfl⟩
 rw [hn]
 have hE := Ext.alloc w (.cells #[.int .u8 ((n : Int) / 16777216 % 256), .int .u8 ((n : Int) / 65536 % 256), .int .u8 ((n : Int) / 256 % 256), .int .u8 ((n : Int) % 256)] 5)
 have hr := rb_lit w #[.int .u8 ((n : Int) / 16777216 % 256), .int .u8 ((n : Int) / 65536 % 256), .int .u8 ((n : Int) / 256 % 256), .int .u8 ((n : Int) % 256)] (byt n) (by rw [bys_byt]) (byt_lt n) (by simp [byt])
 have ho := h.same (w' := w.alloc (.cells #[.int .u8 ((n : Int) / 16777216 % 256), .int .u8 ((n : Int) / 65536 % 256), .int .u8 ((n : Int) / 256 % 256), .int .u8 ((n : Int) % 256)] 5)) fun k _ cs hb => hE.at_ hb
 have hb : base ≤ (w.alloc (.cells #[.int .u8 ((n : Int) / 16777216 % 256), .int .u8 ((n : Int) / 65536 % 256), .int .u8 ((n : Int) / 256 % 256), .int .u8 ((n : Int) % 256)] 5)).heap.size := by simp; omega
 have hll : bs.length + (byt n).length ≤ 100000000 := by rw [byt_length]; omega
 have Hn := Lib.hid hn
 rw [byt_length] at hr
 clear hn
 go_enter Tryz.func148, Tryz.ntmps148
 go_wp2_with (at_builtin; refine app8 rfl (.tmp 5) (.tmp 17) rfl base rfl ho (by rw [byt_length]; rfl) hr hll hb ?_; intro A' c' w1 hw1 hb1)
 go_ret
 exact ⟨A', c', by rw [List.length_append]; rfl, hw1, Below.trans (hE.mono hbase) hb1⟩
set_option maxRecDepth 100000 in
set_option maxHeartbeats 2000000 in
theorem append64_o (n : Nat) (w : World) :
 Calls Tryz.prog 149 #[.slice none 0 0, .int .u64 (n : Int)] w fun e w' => ∃ A' c', e = .returned (.slice A' 8 c') ∧ OW w' w.heap.size A' c' (byt8 n) ∧ Ext w w' := by
 have hE := Ext.alloc w (.cells (bys (byt8 n)).toArray 5)
 have hr := rb_lit w (bys (byt8 n)).toArray (byt8 n) rfl (byt8_lt n) (by simp [byt8])
 have ho : OW (w.alloc (.cells (bys (byt8 n)).toArray 5)) w.heap.size none 0 [] := ⟨⟨by simp [bys], .inl ⟨rfl, rfl⟩⟩, by simp⟩
 have hb : w.heap.size ≤ (w.alloc (.cells (bys (byt8 n)).toArray 5)).heap.size := by simp
 have hll : ([] : List Nat).length + (byt8 n).length ≤ 100000000 := by simp [byt8]
 rw [bys_byt8] at hE hr ho hb
 go_enter Tryz.func149, Tryz.ntmps149
 go_wp2_with (at_builtin; refine app8 rfl (.tmp 5) (.tmp 29) rfl w.heap.size rfl ho rfl hr hll hb ?_; intro A' c' w1 hw1 hb1)
 go_ret
 exact ⟨A', c', rfl, hw1, Below.trans hE hb1⟩
set_option maxRecDepth 100000 in
set_option maxHeartbeats 2000000 in
theorem put64_o (n g : Nat) (w : World) (hg : Blk8 w g (List.replicate 8 0)) :
 Calls Tryz.prog 147 #[.slice (some ⟨g, 0, none⟩) 8 8, .int .u64 (n : Int)] w fun e w' => e = .returned (.tuple #[]) ∧ Blk8 w' g (byt8 n) ∧ Just g w w' := by
 go_enter Tryz.func147, Tryz.ntmps147
 refine Par.region_ext (by kernel_rfl) 4 [0, 1, 0, 4, 15] [] (fun j f X => match j with
  | 0 => f 0 = .slice (some ⟨g, 0, none⟩) 8 8
  | 1 => f 1 = .slice (some ⟨g, 0, none⟩) 8 8
  | 2 => f 2 = .int .u64 (n : Int)
  | 3 => ∃ A c, f 3 = .slice A 8 c ∧ OW X w.heap.size A c (byt8 n)
  | _ => True) (by kernel_rfl) [(4, 0), (5, 1), (6, 2), (7, 3)] (by kernel_rfl) ?_
 refine Par.v0 1 3 ?_
 refine Par.S 2 2 [(4, 0), (6, 2), (7, 3)] (fun f X hX hR K hK => ?_) ?_
 · have e0 : f 0 = _ := hR.out 0 rfl
   simp only [yA, yB, yC, yD, yE, e0]
   refine ⟨?_⟩
   go_simp
   exact Par.k hK (s := by simp only [yA, yB, yC, yD, yE, e0])
 refine Par.v0 3 1 ?_
 refine Par.c0 4 0 (fun f => #[Value.slice none 0 0, f 2]) (F' := 149) (fun f X hX hR => ?_) ?_
 · have e2 : f 2 = _ := hR.out 2 rfl
   simp only [e2]
   refine (append64_o n X).mono ?_
   rintro e w2 ⟨A2, c2, rfl, ho, hB⟩
   exact ⟨_, rfl, hB, fun Y hY => ⟨_, _, rfl, (ho.mono hX.bsize).same fun k _ cs hb => hY.at_ hb⟩⟩
 refine Par.AllOps.fin ⟨fun f X hX hR hal hap => ?_⟩
 have e1 : f 1 = _ := hR 1 (by decide)
 obtain ⟨A3, c3, (e3 : f 3 = _), h3⟩ := hR 3 (by decide)
 simp only [yA, yB, yD, yE, e1, e3]
 clear hR hal hap e1 e3
 obtain ⟨ad, rfl⟩ : ∃ ad, A3 = some ad := by obtain ⟨ad, e, _⟩ := (h3.rb (by simp [byt8])).dg (i := 0) (by simp [byt8]); exact ⟨ad, e⟩
 have hcp := run_copy_row (P := Tryz.prog) X 22 22 3 5 g 0 8 8 ad 8 c3 (bys (List.replicate 8 0)).toArray 5 (bys (byt8 n)) Tryz.underlying22 (by kernel_rfl) (hX.at_ hg) rfl (fun j v hv => (h3.rb (by simp [byt8])).1.cell_ hv) (by simp [bys, byt8]) (by intro v hv; obtain ⟨b, _, rfl⟩ := List.mem_map.1 hv; rfl)
 have hY1 := Go.setRow_heap X g _ (bys (byt8 n)).toArray 5 _ (hX.at_ hg)
 have hY2 : Just g X (X.setRow g (bys (byt8 n)).toArray) := ⟨rfl, rfl, rfl, by simp [World.setRow], fun k _ hk => Go.setRow_other X g k _ hk⟩
 rw [show ((bys (List.replicate 8 0)).toArray.toList.take 0 ++ bys (byt8 n) ++ (bys (List.replicate 8 0)).toArray.toList.drop (0 + (bys (byt8 n)).length)) = bys (byt8 n) by simp [bys, byt8]] at hcp
 generalize X.setRow g (bys (byt8 n)).toArray = Y1 at *
 refine Par.Chain.next (fun K hK => ⟨Par.want (by kernel_rfl) ?_⟩)
 go_simp
 refine hK.out _ _ ?_
 refine Par.Chain.done ?_
 go_wp2
 go_end0
 exact ⟨rfl, hY1, (Just.of_below hX (Nat.le_refl _)).trans hY2⟩
set_option maxRecDepth 100000 in
set_option maxHeartbeats 4000000 in
theorem hcopy_any {b F : Nat} {m : List Nat} (w : World) (hs : HS w b m F) :
 Calls Tryz.prog 138 #[.pointer (some ⟨b, 0, none⟩)] w fun e w' => ∃ b', e = .returned (.pointer (some ⟨b', 0, none⟩)) ∧ w.heap.size ≤ b' ∧ HS w' b' m (b' + 1) ∧ Ext w w' := by
 obtain ⟨A, c, hB, hO, hN, hm⟩ := hs
 obtain ⟨s, hst⟩ : ∃ s, (taken s256 m (m.length / 64)).list = s := ⟨_, rfl⟩
 rw [hst] at hB
 have zb := hB.lt
 have hcs := hB.1
 have hsz : (hcells s (.slice A (rem m).length c) m.length).length = 11 := by simp [hcells, hB.2]
 have hi : (Tryz.prog.info? 192).map (·.size) = some (hcells s (.slice A (rem m).length c) m.length).toArray.size := by rw [List.size_toArray, hsz]; kernel_rfl
 have h1c : (hcells s (.slice A (rem m).length c) m.length).toArray.all (·.oneCell') = true := by simp [hcells, Value.oneCell']
 have HBo := Lib.hid hB
 have HO := Lib.hid hO
 have HN := Lib.hid hN
 have Hst := Lib.hid hst
 have HM := Lib.hid hm
 have Hsz := Lib.hid hsz
 obtain ⟨cs, hce⟩ : ∃ cs, (hcells s (.slice A (rem m).length c) m.length).toArray = cs := ⟨_, rfl⟩
 rw [hce] at hcs hi h1c
 have Hce := Lib.hid hce
 have hcz : cs.size = 11 := by rw [← hce, List.size_toArray, hsz]
 clear hB hO hN hst hm hsz hce
 go_enter Tryz.func138, Tryz.ntmps138
 go_upto_region 3 with fail
 refine Par.region_txt 4 [0, 1, 3, 0, 15] [3] (fun j f X => match j with
  | 0 => f 0 = .pointer (some ⟨b, 0, none⟩)
  | 1 => f 1 = .pointer (some ⟨b, 0, none⟩)
  | 2 => f 2 = .agg cs
  | 3 => ∃ b, f 3 = .pointer (some ⟨b, 0, none⟩) ∧ w.heap.size ≤ b ∧ X.heap[b]? = some (.cells #[.int .i64 0, .int .u64 0, .int .u64 0, .int .u64 0, .int .u64 0, .int .u64 0, .int .u64 0, .int .u64 0, .int .u64 0, .slice none 0 0, .int .u64 0] 192 (0, 0))
  | _ => True) (by kernel_rfl) [(6, 0), (7, 1), (8, 2), (3, 3)] (by kernel_rfl) ?_
 refine Par.v0 1 3 ?_
 refine Par.v1 2 2 0 ?_
 refine lV1 3 1 1 hcs hi ?_
 refine Par.al 4 0 ?_
 refine Par.AllOps.fin ⟨fun f X hX hR hal hap => ?_⟩
 have e2 : f 2 = _ := hR 2 (by decide)
 obtain ⟨b3, (e3 : f 3 = _), l3, h3⟩ := hR 3 (by decide)
 simp only [yA, yB, yD, yE, e2, e3]
 clear hR hal hap e2 e3
 refine Par.Chain.next (fun K hK => ⟨Par.want (by kernel_rfl) (wp_storeV (cs' := cs) (t := 192) 192 (.tmp 3) (.tmp 8) rfl rfl rfl rfl h3 hi (by rw [hcz]; rfl) h1c (fun Y hY1 hY2 hY3 => hK.out _ _ ?_))⟩)
 refine Par.Chain.done ?_
 have hEY := hY2.ext hX l3
 have hB3 : HB Y b3 s (.slice A (rem m).length c) m.length := ⟨by rw [hY1, ← Hce.out], HBo.out.2⟩
 have hBY := HBo.out.ext hEY
 have hOY : OW Y F A c (rem m) := HO.out.same fun k _ cs hb => hEY.at_ hb
 have cw := hBY.wait
 have z3 := hB3.lt
 have hcl := Lib.hid (cloneO (In F Y.heap.size) A c (rem m) Y (hOY.rb (by rw [rem_length]; omega)) (fun k hk => hk.2) HN.out (by rw [rem_length]; omega))
 have HE := Lib.hid hEY
 have HB3 := Lib.hid hB3
 clear hX hY1 hY2 hY3 hEY hB3 hBY hOY h3
 go_upto_region 4 with fail
 go_wp2_with fail
 refine hcl.out.mono ?_
 rintro e w4 ⟨A4, c4, rfl, ho4, hn4, hE4⟩
 have hB4 := HB3.out.ext hE4
 have c4' := hB4.wait
 have f4 := hB4.free 9
 have hj := (Just.refl b3 w4).set 9 (.slice A4 (rem m).length c4)
 have HB5 := Lib.hid (hB4.setWait (.slice A4 (rem m).length c4))
 have HO5 := Lib.hid (show OW (w4.setCell ⟨b3, 9, none⟩ (.slice A4 (rem m).length c4)) (b3 + 1) A4 c4 (rem m) from (ho4.mono (by omega)).same fun k hk cs hb => hj.at_ (by omega) hb)
 have HE5 := Lib.hid (hj.ext (HE.out.trans hE4) l3)
 have HN4 := Lib.hid hn4
 clear hj hB4 ho4 hn4 hE4
 go_wp2_with fail
 go_ret
 exact ⟨b3, rfl, l3, ⟨A4, c4, by rw [Hst.out]; exact HB5.out, HO5.out, HN4.out, HM.out⟩, HE5.out⟩
end Go.Proofs.YtaemogcomplhiaaGreatDoor

namespace Go.Proofs.YtaemogcomplhiaaGreatDoor
open Go.RowKit
open Sha
attribute [local go_sem] Oper.semAt_some

theorem wp_loadR {op : Oper} {a : Act} {X : World} {K : Act → World → Prop} {Q : Exit → Act → World → Prop} (t : TypeId) (x : Operand) (ho : op.op = .load t x) {p : Addr} {v : Value} (hx : a.eval x = .pointer (some p)) (hr : (Instr.loadAt t (.pointer (some p))).run Tryz.prog X = .ok v X) (hK : K (a.put op.dst v) X) : op.wp Tryz.prog a X K Q := by
 unfold Oper.wp execOp
 simp only [ho, hx, Sem.run_bind, hr, Result.andThen_ok]
 exact hK
theorem Fr.ext' {b F : Nat} {w x y : World} (h : Fr b F x y) (hE : Ext w x) (hb : w.heap.size ≤ b) (hF : w.heap.size ≤ F) : Ext w y :=
 ⟨h.os.trans hE.os, h.tape.trans hE.tape, h.output.trans hE.output, Nat.le_trans hE.bsize h.size, fun i hi => (h.block i (by omega) (by omega)).trans (hE.block i hi)⟩
theorem tail_byt8 (n : Nat) : tail n = (128 :: List.replicate ((119 - n % 64) % 64) 0) ++ byt8 (n * 8) := by
 rw [tail, byt8_eq]; simp
theorem ow_pad {w : World} {g z zc v : Nat} (h : w.heap[g]? = some (.cells ((bys (List.replicate v 0)).toArray.setIfInBounds 0 (.int .u8 128)) 5 (0, 0))) (hz : z = zc + 1) (hv : z ≤ v) (hv' : v ≤ 1000) :
 OW w g (some ⟨g, 0, none⟩) v (128 :: List.replicate zc 0) ∧ (128 :: List.replicate zc 0).length = z := by
 have hl : (128 :: List.replicate zc 0).length = z := by simp; omega
 refine ⟨⟨⟨by simp [bys], .inr ⟨g, v, _, rfl, Nat.le_refl _, h, by omega, by unfold maxLen; omega, by simp [bys], ?_⟩⟩, ?_⟩, hl⟩
 · obtain ⟨u, rfl⟩ : ∃ u, v = u + 1 := ⟨v - 1, by omega⟩
   rw [hl, hz]
   simp [bys, List.replicate_succ, List.take_replicate]
   omega
 · intro b hb
   rcases List.mem_cons.1 hb with rfl | hb
   · omega
   · rw [(List.mem_replicate.1 hb).2]; omega
def flat (l : List W) (k : Nat) : List Nat := (l.take k).flatMap fun x => byt x.toNat
theorem flat_succ {l : List W} {k : Nat} (h : k < l.length) : flat l (k + 1) = flat l k ++ byt (wd l k).toNat := by
 have e : l[k]? = some (wd l k) := by simp [wd, h]
 rw [flat, List.take_add_one, e, List.flatMap_append]
 simp [flat]
theorem flat_len {l : List W} : ∀ {k : Nat}, k ≤ l.length → (flat l k).length = 4 * k
 | 0, _ => by simp [flat]
 | k + 1, h => by rw [flat_succ (by omega), List.length_append, flat_len (by omega), byt_length]; omega

set_option maxRecDepth 100000 in
set_option maxHeartbeats 8000000 in
theorem sum_any {b F : Nat} {m : List Nat} (w : World) (hs : HS w b m F) (hk : KW w) (hm : m.length ≤ 400000) (_hmb : ∀ x ∈ m, x < 256) :
 Calls Tryz.prog 139 #[.pointer (some ⟨b, 0, none⟩)] w fun e w' => ∃ A c, e = .returned (.slice A 32 c) ∧ OW w' w.heap.size A c (sha m) ∧ Ext w w' := by
 obtain ⟨r, hr⟩ : ∃ r, m.length % 64 = r := ⟨_, rfl⟩
 have hr64 : r < 64 := by omega
 have hcopy := Lib.hid (fun X (hX : Ext w X) => hcopy_any X (hs.ext hX))
 obtain ⟨A0, c0, hB0, _, _, _⟩ := hs
 have zk := hk.lt
 have ck := hB0.kind
 have cn := hB0.num
 have HK := Lib.hid hk
 have HR := Lib.hid hr
 have Hm := Lib.hid hm
 clear hB0 hk hr hm
 go_enter Tryz.func139, Tryz.ntmps139
 go_upto_region 3 with fail
 refine Par.region_ext (by kernel_rfl) 9 [0, 1, 0, 4, 12, 28, 63, 127, 255] [] (fun j f X => match j with
  | 0 => f 0 = .pointer (some ⟨b, 0, none⟩)
  | 1 => ∃ b', f 1 = .pointer (some ⟨b', 0, none⟩) ∧ w.heap.size ≤ b' ∧ HS X b' m (b' + 1)
  | 2 => f 2 = .pointer (some ⟨b, 0, none⟩)
  | 3 => f 3 = .pointer (some ⟨b, 0, none⟩)
  | 4 => f 4 = .pointer (some ⟨b, 0, none⟩)
  | 5 => f 5 = .int .i64 3
  | 6 => f 6 = .int .i64 64
  | 7 => ∃ b', f 7 = .pointer (some ⟨b', 0, none⟩) ∧ w.heap.size ≤ b' ∧ HS X b' m (b' + 1)
  | 8 => f 8 = .int .i64 64
  | _ => True) (by kernel_rfl) [(13, 0), (14, 1), (15, 2), (16, 3), (17, 4), (18, 5), (19, 6), (3, 7), (4, 8)] (by kernel_rfl) ?_
 refine Par.v0 1 8 ?_
 refine Par.c0 2 7 (fun f => #[f 0]) (F' := 138) (fun f X hX hR => ?_) ?_
 · have e0 : f 0 = _ := hR.out 0 rfl
   simp only [e0]
   refine (hcopy.out X hX).mono ?_
   rintro e w2 ⟨b', rfl, hl, hs, hB⟩
   exact ⟨_, rfl, hB, fun Y hY => ⟨b', rfl, Nat.le_trans hX.bsize hl, hs.ext hY⟩⟩
 refine Par.v0 3 6 ?_
 refine Par.v1 4 5 2 ?_
 refine Par.v1 5 4 3 ?_
 refine Par.ld1 6 3 4 ck ?_
 refine Par.c0 7 2 (fun f => #[f 5]) (F' := 134) (fun f X hX hR => ?_) ?_
 · have e5 : f 5 = _ := hR.out 5 rfl
   simp only [e5]
   refine (block3 _).mono ?_
   rintro e w2 ⟨rfl, rfl⟩
   exact ⟨_, rfl, (Ext.refl _), fun _ _ => rfl⟩
 refine Par.S 8 1 [(13, 0), (14, 1), (15, 2), (16, 3), (17, 4), (18, 5), (19, 6)] (fun f X hX hR K hK => ?_) ?_
 · obtain ⟨b1, (e1 : f 1 = _), l1, h1⟩ := hR.out 1 rfl
   simp only [yA, yB, yC, yD, yE, e1]
   refine ⟨?_⟩
   go_simp
   exact hK.out _ _ _ (by simp only [yA, yB, yC, yD, yE, e1]) (Ext.refl _) trivial (fun Y hY => ⟨b1, rfl, l1, h1.ext hY⟩)
 refine Par.v1 9 0 6 ?_
 refine Par.AllOps.fin ⟨fun f X hX hR hal hap => ?_⟩
 obtain ⟨b1, (e1 : f 1 = _), l1, h1⟩ := hR 1 (by decide)
 obtain ⟨b7, (e7 : f 7 = _), l7, h7⟩ := hR 7 (by decide)
 have e8 : f 8 = _ := hR 8 (by decide)
 simp only [yA, yB, yD, yE, e1, e7, e8]
 clear hR hal hap e1 e7 e8
 refine Par.Chain.done ?_
 obtain ⟨A, c, hB, hO, hN, hm5⟩ := id h7
 have HS7 := Lib.hid h7
 have HE := Lib.hid hX
 have hrl := (rem_length m).trans HR.out
 have cw := hB.wait
 rw [hrl] at cw
 have zb7 := hB.lt
 clear hB hO hN hm5 h7 h1 l1 hX hrl hcopy
 rename World => wa
 obtain ⟨t, ht⟩ : ∃ t, (r + 9) % 64 = t := ⟨_, rfl⟩
 obtain ⟨v, hv⟩ : ∃ v, 65 - t = v := ⟨_, rfl⟩
 obtain ⟨r1, h1⟩ : ∃ x, r + 1 = x := ⟨_, rfl⟩
 obtain ⟨r9, h9⟩ : ∃ x, r + 9 = x := ⟨_, rfl⟩
 obtain ⟨u, hu⟩ : ∃ x, 64 - t = x := ⟨_, rfl⟩
 have e1 : IntKind.i64.wrap ((r : Int) + 1) = (r1 : Int) := by rw [IntWalk.i64_in _ (by omega)]; omega
 have e2 : IntKind.i64.wrap ((r1 : Int) + 8) = (r9 : Int) := by rw [IntWalk.i64_in _ (by omega)]; omega
 have e3 : (r9 : Int).tmod 64 = (t : Int) := by rw [Int.tmod_eq_emod_of_nonneg (by omega)]; omega
 have e4 : IntKind.i64.wrap (64 - (t : Int)) = (u : Int) := by rw [IntWalk.i64_in _ (by omega)]; omega
 have e5 : IntKind.i64.wrap ((u : Int) + 1) = (v : Int) := by rw [IntWalk.i64_in _ (by omega)]; omega
 have v0 : (0 : Int) ≤ (v : Int) := by omega
 have v1 : (v : Int) ≤ 65 := by omega
 have hmk := run_make_row' (P := Tryz.prog) 22 5 (.int .u8 0) 1 Tryz.underlying22 info8 rfl .i64 .i64 v (by omega) (by omega)
 have hmd := Blk8.made wa v
 have hEm := Ext.alloc wa (.cells (madeCells #[.int .u8 0] v) 5)
 obtain ⟨g, hg⟩ : ∃ g, wa.heap.size = g := ⟨_, rfl⟩
 have Hg := Lib.hid hg
 have HT := Lib.hid ht
 have Hv := Lib.hid hv
 have Hu := Lib.hid hu
 have H1 := Lib.hid h1
 have H9 := Lib.hid h9
 clear ht hv h1 h9 hu
 go_upto_region 6 with fail
 have HEm := Lib.hid hEm
 clear hmk hEm
 rw [hg] at hmd
 generalize wa.alloc (.cells (madeCells #[.int .u8 0] v) 5) = wb at *
 have cw := HEm.out.cell cw
 obtain ⟨z, hz⟩ : ∃ z, (119 - r) % 64 + 1 = z := ⟨_, rfl⟩
 have Hz := Lib.hid hz
 clear hz hg
 go_upto_if 46 with fail
 go_cut [6] from 47 (fun s6 wx => s6 = .slice (some ⟨g, 0, none⟩) z v ∧ wb = wx)
 case first =>
  have hT := HT.out
  have hv := Hv.out
  have hz := Hz.out
  by_cases ht0 : t = 0
  · have z1 : z = 1 := by omega
    have v65 : v = 65 := by omega
    subst z1 v65 ht0
    clear hT hv hz
    go_wp2_with fail
    go_meet
    case rel => exact ⟨rfl, rfl⟩
  · have z1 : z = v := by omega
    subst z1
    have t0 : ¬ (t : Int) = 0 := by omega
    clear hT hv hz
    go_wp2_with fail
    go_meet
    case rel => exact ⟨rfl, rfl⟩
 case rest =>
  obtain ⟨rfl, rfl⟩ := hcut
  clear e1 e2 e3 e4 e5 cw
  have hzv : z ≤ v := by have := HT.out; have := Hv.out; have := Hz.out; omega
  have hz0 : (0 : Int) < (z : Int) := by have := Hz.out; omega
  have cg := hmd.cell (i := 0) (by simp; omega)
  have fg := hmd.free 0
  have hset := blk_set hmd 0 (.int .u8 128)
  have hjg := (Just.refl g wb).set 0 (.int .u8 128)
  obtain ⟨zc, hzc⟩ : ∃ x, (119 - m.length % 64) % 64 = x := ⟨_, rfl⟩
  obtain ⟨hop, hpl⟩ := ow_pad (z := z) (zc := zc) hset (by rw [← hzc, HR.out]; exact Hz.out.symm) hzv (by omega)
  have HJg := Lib.hid hjg
  have HOP := Lib.hid hop
  have Hpl := Lib.hid hpl
  have Hzc := Lib.hid hzc
  clear hset hjg hop hpl hzc hmd
  go_upto_region 9 with fail
  clear cg fg
  generalize wb.setCell ⟨g, 0, none⟩ (.int .u8 128) = wq at *
  have hmk8 := run_make_row' (P := Tryz.prog) 22 5 (.int .u8 0) 1 Tryz.underlying22 info8 rfl .i64 .i64 8 (by omega) (by omega)
  have hb8 := Blk8.made wq 8
  have HE8 := Lib.hid (Ext.alloc wq (.cells (madeCells #[.int .u8 0] 8) 5))
  simp only [Int.cast_ofNat_Int] at hmk8
  go_upto_region 10 with fail
  clear hmk8
  generalize wq.alloc (.cells (madeCells #[.int .u8 0] 8) 5) = we at *
  obtain ⟨g8, hg8⟩ : ∃ g, wq.heap.size = g := ⟨_, rfl⟩
  have Hg8 := Lib.hid hg8
  rw [hg8] at hb8 ⊢
  have hEd : Ext w wq := HJg.out.ext (HE.out.trans HEm.out) (by have := Hg.out; have := HE.out.bsize; omega)
  have HEe := Lib.hid (hEd.trans HE8.out)
  have cn' := HEe.out.cell cn
  obtain ⟨nn, hnn⟩ : ∃ x, m.length * 8 = x := ⟨_, rfl⟩
  have e8 : (m.length : Int) * 8 % 18446744073709551616 = (nn : Int) := by have := Hm.out; omega
  have Hnn := Lib.hid hnn
  clear hnn hEd
  refine Par.region_ext (by kernel_rfl) 9 [0, 0, 2, 7, 0, 16, 48, 112, 240, 511] [] (fun j f X => match j with
   | 0 => f 0 = .slice (some ⟨g8, 0, none⟩) 8 8
   | 1 => f 1 = .int .i64 8
   | 2 => f 2 = .int .i64 0
   | 3 => f 3 = .slice (some ⟨g8, 0, none⟩) 8 8
   | 4 => f 4 = .pointer (some ⟨b, 0, none⟩)
   | 5 => f 5 = .pointer (some ⟨b, 0, none⟩)
   | 6 => f 6 = .pointer (some ⟨b, 10, none⟩)
   | 7 => f 7 = .int .u64 (m.length : Int)
   | 8 => f 8 = .int .u64 (nn : Int)
   | _ => True) (by kernel_rfl) [(53, 0), (54, 1), (55, 2), (56, 3), (57, 4), (58, 5), (59, 6), (60, 7), (61, 8)] (by kernel_rfl) ?_
  refine Par.v0 1 8 ?_
  refine Par.v0 2 7 ?_
  refine Par.v1 3 6 1 ?_
  refine Par.S 4 5 [(53, 0), (54, 1), (55, 2), (57, 4), (58, 5), (59, 6), (60, 7), (61, 8)] (fun f X hX hR K hK => ?_) ?_
  · have e0 : f 0 = _ := hR.out 0 rfl
    have e2 : f 2 = _ := hR.out 2 rfl
    simp only [yA, yB, yC, yD, yE, e0, e2]
    refine ⟨?_⟩
    go_simp
    exact Par.k hK (s := by simp only [yA, yB, yC, yD, yE, e0, e2])
  refine Par.v0 5 4 ?_
  refine Par.v1 6 3 4 ?_
  refine Par.v1 7 2 5 ?_
  refine Par.ld1 8 1 6 cn' ?_
  refine Par.v1 9 0 7 (hR := fun _ _ h => h.trans (congrArg (Value.int .u64) (show IntKind.u64.wrap ((m.length : Int) * 2 ^ 3) = (nn : Int) by rw [IntKind.wrap_u64]; exact e8))) ?_
  refine Par.AllOps.fin ⟨fun f X hX hR hal hap => ?_⟩
  have e3 : f 3 = _ := hR 3 (by decide)
  have e8 : f 8 = _ := hR 8 (by decide)
  simp only [yA, yB, yD, yE, e3, e8]
  clear hR hal hap e3 e8
  replace hb8 := hX.at_ hb8
  refine Par.Chain.next (fun K hK => ⟨Par.want (by kernel_rfl) ?_⟩)
  go_simp
  refine (put64_o nn g8 X hb8).mono ?_
  rintro e wf ⟨rfl, hb9, hj9⟩
  refine hK.out _ _ ?_
  refine Par.Chain.done ?_
  have HB9 := Lib.hid hb9
  have HJ9 := Lib.hid hj9
  have HX9 := Lib.hid hX
  clear hb8 hb9 hj9 hX e8 cn'
  go_upto_region 13 with fail
  have hgd : g < wq.heap.size := by have := HOP.out.own rfl; obtain ⟨_, cs, hc⟩ := this; exact blk_lt hc
  have hEwd : Ext wa wq := HJg.out.ext HEm.out (by have := Hg.out; omega)
  have hEdf : Ext wq wf := HJ9.out.ext (HE8.out.trans HX9.out) (by have := Hg8.out; omega)
  have HEA := Lib.hid (hEwd.trans hEdf)
  have hopf : OW wf g (some ⟨g, 0, none⟩) v (128 :: List.replicate zc 0) := HOP.out.same fun k _ cs hb => hEdf.at_ hb
  have hrf : RB wf (fun k => k = g8) (some ⟨g8, 0, none⟩) 8 (byt8 nn) := HB9.out.rb rfl (byt8_lt nn) (by simp [byt8])
  have hgs : g ≤ wf.heap.size := by have := hEdf.bsize; omega
  have hlen : (128 :: List.replicate zc 0).length + (byt8 nn).length ≤ 100000000 := by rw [Hpl.out]; simp [byt8]; omega
  have htl : (128 :: List.replicate zc 0) ++ byt8 nn = tail m.length := by rw [tail_byt8, Hzc.out, Hnn.out]
  have HTL := Lib.hid htl
  have HSf := Lib.hid (HS7.out.ext HEA.out)
  clear hgd hEwd hEdf htl
  go_wp2_with (at_builtin; refine app8 rfl (.tmp 76) (.tmp 77) rfl g (by rw [Hpl.out]; rfl) hopf rfl hrf hlen hgs ?_; intro A5 c5 wg ho5 hb5)
  rw [HTL.out] at ho5
  have hEfg : Ext wa wg := Below.trans HEA.out (hb5.mono (by have := Hg.out; omega))
  rw [show zc + (byt8 nn).length + 1 = (tail m.length).length by rw [← HTL.out]; simp]
  have htl : (tail m.length).length ≤ 80 := by rw [tail_length]; omega
  have hwr := Lib.hid (write_any (p := tail m.length) wg (HS7.out.ext hEfg) (HK.out.ext (HE.out.trans hEfg)) (ho5.rb (by omega)) (fun k hk => hk.2) (Nat.lt_succ_self b7) (by omega) (by have := hEfg.bsize; omega) (by rw [List.length_append]; have := Hm.out; omega))
  have HEg := Lib.hid (HE.out.trans hEfg)
  have zbg : b7 < wg.heap.size := by have := hEfg.bsize; omega
  clear hEfg ho5 hb5 hopf hrf hgs hlen htl HSf
  refine hwr.out.mono ?_
  rintro e wh ⟨rfl, hsh, hfh⟩
  have HEh := Lib.hid (hfh.ext' HEg.out l7 (by omega))
  obtain ⟨A6, c6, hB6, _, _, _⟩ := hsh
  have hpm : m ++ tail m.length = pad m := rfl
  rw [hpm] at hB6
  obtain ⟨s8, hs8⟩ : ∃ s, taken s256 (pad m) ((pad m).length / 64) = s := ⟨_, rfl⟩
  rw [hs8] at hB6
  have Hsha := Lib.hid (show sha m = s8.out by rw [sha, hs8])
  have hmid := Lib.hid (show ∀ X, Ext wh X → (Instr.loadAt 175 (.pointer (some ⟨b7, 1, none⟩))).run Tryz.prog X = .ok (.agg (s8.list.map fun x => Value.int .u64 (x.toNat : Int)).toArray) X from fun X hX =>
   run_loadAt_mid X b7 1 175 (s8.list.map fun x => Value.int .u64 (x.toNat : Int)) _ (fun j u hu => by
    have hj : j < 8 := by have := (List.getElem?_eq_some_iff.1 hu).1; simpa [St.list] using this
    rw [(hB6.ext hX).cell hj]
    have h8 : j < s8.list.length := hj
    rw [← hu]
    simp [wd, h8]) Tryz.underlying175 rfl (by kernel_rfl))
  have ck' := HEh.out.cell ck
  clear hwr hfh hs8 hpm hB6
  go_upto_region 15 with fail
  obtain ⟨arr, harr⟩ : ∃ a, (s8.list.map fun x => Value.int .u64 (x.toNat : Int)).toArray = a := ⟨_, rfl⟩
  rw [harr] at hmid
  have hai := Lib.hid (show ∀ k, k < 8 → arr[k]? = some (.int .u64 ((wd s8.list k).toNat : Int)) from fun k hk => by
   have h8 : k < s8.list.length := hk
   rw [← harr, List.getElem?_toArray]
   simp [wd, h8])
  clear harr
  refine Par.region_txt 5 [0, 1, 3, 7, 0] [] (fun j f X => match j with
   | 0 => f 0 = .pointer (some ⟨b7, 0, none⟩)
   | 1 => f 1 = .pointer (some ⟨b7, 0, none⟩)
   | 2 => f 2 = .pointer (some ⟨b7, 1, none⟩)
   | 3 => f 3 = .agg arr
   | 4 => f 4 = Value.int IntKind.i64 0
   | _ => True) (by kernel_rfl) [(80, 0), (81, 1), (82, 2), (83, 3), (84, 4)] (by kernel_rfl) ?_
  refine Par.v0 1 4 ?_
  refine Par.v1 2 3 0 ?_
  refine Par.v1 3 2 1 ?_
  refine Par.S 4 1 [(80, 0), (81, 1), (82, 2), (84, 4)] (fun f X hX hR K hK => ?_) ?_
  · have e2 : f 2 = _ := hR.out 2 rfl
    simp only [yA, yB, yC, yD, yE, e2]
    refine ⟨Par.want (by kernel_rfl) (wp_loadR 175 (.tmp 82) rfl rfl (hmid.out X hX) ?_)⟩
    exact Par.k hK (s := by simp only [yA, yB, yC, yD, yE, e2])
  refine Par.v0 5 0 ?_
  refine Par.AllOps.fin ⟨fun f X hX hR hal hap => ?_⟩
  have e3 : f 3 = _ := hR 3 (by decide)
  have e4 : f 4 = _ := hR 4 (by decide)
  simp only [yA, yB, yD, yE, e3, e4]
  clear hR hal hap e3 e4
  refine Par.Chain.done ?_
  have HEx := Lib.hid (HEh.out.trans hX)
  clear hX ck' hmid
  rename World => wl
  obtain ⟨D, hD⟩ : ∃ D, wl.heap.size = D := ⟨_, rfl⟩
  have HD := Lib.hid hD
  have how : OW wl D none 0 (flat s8.list 0) := ⟨⟨by simp [flat, bys], .inl ⟨rfl, rfl⟩⟩, by simp [flat]⟩
  clear hD
  go_wp2_with fail
  go_loopw [8, 84] (fun sv iv wr => ∃ (k : Nat) (A : Option Addr) (c : Nat), iv = .int .i64 (k : Int) ∧ k ≤ 8 ∧ sv = .slice A (flat s8.list k).length c ∧ Hid (OW wr D A c (flat s8.list k)) ∧ Hid (Below D wl wr)) (fun _ iv _ => (8 - intOf iv).toNat)
  case atStart => exact ⟨0, none, 0, rfl, by omega, rfl, Lib.hid how, Lib.hid (Below.refl _ _)⟩
  case round =>
   clear how
   obtain ⟨k, Ao, co, rfl, hk8, rfl, HO, HBl⟩ := hrel
   by_cases hlt : k < 8
   · have k8 : (k : Int) < 8 := by omega
     have hidx : ∀ W : World, (Instr.index 175 (.agg arr) (.int .i64 (k : Int))).run Tryz.prog W = .ok (.int .u64 ((Sha.wd s8.list k).toNat : Int)) W := fun W => run_index_arr Tryz.underlying175 (fun _ => by kernel_rfl) (fun _ => by kernel_rfl) hlt (hai.out k hlt)
     have hfl := flat_succ (l := s8.list) (k := k) hlt
     have hll := flat_len (l := s8.list) (k := k) (by show k ≤ 8; omega)
     obtain ⟨x, hx⟩ : ∃ x, Sha.wd s8.list k = x := ⟨_, rfl⟩
     rw [hx] at hidx hfl
     have ha := append32_o x wr HO.out (by have := HBl.out.size; have := HD.out; omega) (by omega)
     rw [← hfl] at ha
     have Ha := Lib.hid ha
     have hxm := w32_mod x
     clear hfl hx ha hll
     go_wp2_with fail
     refine Ha.out.mono ?_
     rintro e wn ⟨A2, c2, rfl, ho2, hb2⟩
     have HO2 := Lib.hid ho2
     have HB2 := Lib.hid (HBl.out.trans hb2)
     clear ho2 hb2 Ha hidx hxm
     go_wp2_with fail
     go_roundw
     case rel => exact ⟨k + 1, A2, c2, by go_num, by omega, rfl, HO2, HB2⟩
     case measure => simp [intOf]; omega
   · obtain rfl : k = 8 := by omega
     rw [show ((8 : Nat) : Int) = 8 from rfl]
     have hf8 : flat s8.list 8 = s8.out := rfl
     have hl8 : (flat s8.list 8).length = 32 := flat_len (l := s8.list) (k := 8) (Nat.le_refl _)
     rw [hl8]
     have HEz := Lib.hid (Below.trans HEx.out (HBl.out.mono (by have := HD.out; have := HEx.out.bsize; omega)))
     have hoz : OW wr w.heap.size Ao co (sha m) := by rw [Hsha.out, ← hf8]; exact HO.out.mono (by have := HD.out; have := HEx.out.bsize; omega)
     have ckz := Ext.cell HEz.out ck
     have hc32 : (32 : Int) ≤ (co : Int) := by have h1 := (HO.out.rb (by rw [hl8]; omega)).cap.1; rw [hl8] at h1; omega
     have HOz := Lib.hid hoz
     clear hf8 hl8 hoz HO HBl hlt hk8
     go_wp2_with fail
     refine (size3 _).mono ?_
     rintro e wn ⟨rfl, rfl⟩
     go_wp2_with fail
     go_ret
     exact ⟨Ao, co, rfl, HOz.out, HEz.out⟩
end Go.Proofs.YtaemogcomplhiaaGreatDoor

namespace Go.Proofs.YtaemogcomplhiaaGreatDoor
open Go.RowKit
open Sha

theorem HS.new {w : World} {b F : Nat} (h : HB w b s256.list (.slice none 0 0) 0) : HS w b [] F :=
 ⟨none, 0, h, ⟨⟨by simp [rem, bys], .inl ⟨rfl, rfl⟩⟩, by simp [rem]⟩, fun _ => ⟨rfl, rfl⟩, by simp⟩
theorem HS.nilfr {w X : World} {b b' F G : Nat} {m : List Nat} (h : HS w b m F) (hr : m.length % 64 = 0) (hf : Fr b' G w X) (hb : b < G) (hn : b ≠ b') : HS X b m F := by
 obtain ⟨A, c, h1, h2, h3, h4⟩ := h
 have hr' : rem m = [] := List.eq_nil_of_length_eq_zero (by rw [rem_length]; exact hr)
 obtain ⟨rfl, rfl⟩ := h3 hr'
 exact ⟨none, 0, ⟨hf.at_ hb hn h1.1, h1.2⟩, ⟨⟨by rw [hr']; simp [bys], .inl ⟨by rw [hr']; rfl, by rw [hr']; rfl⟩⟩, by rw [hr']; simp⟩, h3, h4⟩
theorem HS.justk {w X : World} {b g F : Nat} {m : List Nat} {cs : Array Value} {t : TypeId} (h : HS w b m F) (hj : Just g w X) (hn : b ≠ g) (hg : w.heap[g]? = some (.cells cs t (0, 0))) (ht : t ≠ 5) : HS X b m F := by
 obtain ⟨A, c, h1, h2, h3, h4⟩ := h
 refine ⟨A, c, h1.just hj hn, h2.same fun k _ cs' hk => hj.at_ (fun e => ?_) hk, h3, h4⟩
 rw [e, hg] at hk
 injection Option.some.inj hk with _ e2
 exact ht e2
def turned (kz : List Nat) (c k : Nat) : List Nat := (kz.take k).map (· ^^^ c) ++ kz.drop k
theorem turned_len (kz : List Nat) (c k : Nat) : (turned kz c k).length = kz.length := by simp [turned]; omega
theorem turned_get {kz : List Nat} {c k : Nat} (h : k < kz.length) : dg (turned kz c k) k = dg kz k := by
 simp only [dg, List.getD_eq_getElem?_getD, turned]
 rw [List.getElem?_append_right (by simp; omega), List.length_map, List.length_take, List.getElem?_drop, show k + (k - min k kz.length) = k by omega]
theorem turned_step {kz : List Nat} {c k : Nat} (h : k < kz.length) : (turned kz c k).set k (dg kz k ^^^ c) = turned kz c (k + 1) := by
 have e1 : kz.drop k = dg kz k :: kz.drop (k + 1) := by
  rw [List.drop_eq_getElem_cons h]; simp [dg, h]
 have e2 : kz.take (k + 1) = kz.take k ++ [dg kz k] := by
  rw [List.take_add_one]; simp [dg, h]
 have hl : ((kz.take k).map (· ^^^ c)).length = k := by simp; omega
 rw [turned, turned, e1, e2, List.set_append_right _ _ (by omega), hl, Nat.sub_self]
 simp
theorem turned_all {key : List Nat} {n c : Nat} (hl : key.length ≤ n) (hn : n = 64) : turned (key ++ List.replicate (n - key.length) 0) c n = mask key c := by
 subst hn
 have hl' : (key ++ List.replicate (64 - key.length) 0).length = 64 := by simp; omega
 rw [turned, List.drop_eq_nil_of_le (by omega), List.append_nil, List.take_of_length_le (by omega), mask]
 apply List.ext_getElem
 · simp; omega
 · intro i h1 h2
   have hi : i < 64 := by simpa using h2
   simp only [List.getElem_map, List.getElem_range]
   congr 1
   rw [List.getElem_append]
   split
   · rename_i h; simp [h]
   · rename_i h; simp [List.getElem?_eq_none (Nat.le_of_not_lt h)]
theorem mask_len (k : List Nat) (c : Nat) : (mask k c).length = 64 := by simp [mask]
theorem xor_lt {x c : Nat} (h : x < 256) (hc : c < 256) : x ^^^ c < 256 := Nat.xor_lt_two_pow (n := 8) h hc
theorem mask_lt {k : List Nat} {c : Nat} (h : ∀ b ∈ k, b < 256) (hc : c < 256) : ∀ x ∈ mask k c, x < 256 := by
 intro x hx
 obtain ⟨i, _, rfl⟩ := List.mem_map.1 hx
 refine xor_lt ?_ hc
 rcases Nat.lt_or_ge i k.length with h1 | h1
 · have : k.getD i 0 = k[i] := by simp [h1]
   rw [this]; exact h _ (List.getElem_mem h1)
 · rw [List.getD_eq_getElem?_getD, List.getElem?_eq_none h1]; simp
theorem copy8 {w : World} {g n c : Nat} {P : Nat → Prop} {ad : Addr} {key : List Nat} (hb : Blk8 w g (List.replicate n 0)) (hp : RB w P (some ad) c key) (hl : key.length ≤ n) :
 ∃ W', (Builtin.copy_ #[22, 22] 3 #[.slice (some ⟨g, 0, none⟩) n n, .slice (some ad) key.length c]).run Tryz.prog w = .ok (.int .i64 (key.length : Int)) W' ∧ Blk8 W' g (key ++ List.replicate (n - key.length) 0) ∧ Just g w W' := by
 have hbl : (bys key).length = key.length := by simp [bys]
 have hr := run_copy_row (P := Tryz.prog) w 22 22 3 5 g 0 n n ad key.length c (bys (List.replicate n 0)).toArray 5 (bys key) Tryz.underlying22 (by kernel_rfl) hb (by rw [hbl]; exact (Nat.min_eq_left hl).symm) (fun j v hv => hp.1.cell_ hv) (by rw [hbl]; simp [bys]; omega) (by intro v hv; obtain ⟨b, _, rfl⟩ := List.mem_map.1 hv; rfl)
 have hrow : (bys (List.replicate n 0)).toArray.toList.take 0 ++ bys key ++ (bys (List.replicate n 0)).toArray.toList.drop (0 + (bys key).length) = bys (key ++ List.replicate (n - key.length) 0) := by
  rw [hbl]; simp [bys]
 rw [hrow, hbl] at hr
 exact ⟨_, hr, Go.setRow_heap w g _ _ 5 _ hb, ⟨rfl, rfl, rfl, by simp [World.setRow], fun k _ hk => Go.setRow_other w g k _ hk⟩⟩
set_option maxRecDepth 100000 in
set_option maxHeartbeats 8000000 in
theorem newKeyed_any {P : Nat → Prop} {A : Option Addr} {c : Nat} {key : List Nat} (w : World) (hk : KW w) (hp : RB w P A c key) (hP : ∀ k, P k → k < w.heap.size) (hl0 : 0 < key.length) (hl : key.length ≤ 64) :
 Calls Tryz.prog 128 #[.int .i64 3, .slice A key.length c] w fun e w' => ∃ b1 b2, e = .returned (.agg #[.pointer (some ⟨b1, 0, none⟩), .pointer (some ⟨b2, 0, none⟩)]) ∧ b1 ≠ b2 ∧ w.heap.size ≤ b1 ∧ w.heap.size ≤ b2 ∧ HS w' b1 (mask key 54) w'.heap.size ∧ HS w' b2 (mask key 92) w'.heap.size ∧ Ext w w' := by
 obtain ⟨ad, rfl⟩ : ∃ ad, A = some ad := by obtain ⟨ad, e, _⟩ := hp.dg (i := 0) hl0; exact ⟨ad, e⟩
 have l64 : ¬ (64 : Int) < (key.length : Int) := by omega
 have HP := Lib.hid hp
 have HPP := Lib.hid hP
 have HK := Lib.hid hk
 clear hp hP hk
 have hmk := run_make_row' (P := Tryz.prog) 22 5 (.int .u8 0) 1 Tryz.underlying22 info8 rfl .i64 .i64 64 (by omega) (by omega)
 simp only [Int.cast_ofNat_Int] at hmk
 go_enter Tryz.func128, Tryz.ntmps128
 go_upto_region 3 with (go_at_call 134; refine (block3 _).mono ?_; rintro e w1 ⟨rfl, rfl⟩)
 obtain ⟨W0, hW0⟩ : ∃ W0, w.alloc (.cells #[.pointer none, .pointer none] 173) = W0 := ⟨_, rfl⟩
 have hE0 : Ext w W0 := by rw [← hW0]; exact Ext.alloc _ _
 have hr0 : W0.heap[w.heap.size]? = some (.cells #[.pointer none, .pointer none] 173 (0, 0)) := by rw [← hW0]; exact heap_alloc_new _ _
 rw [hW0]
 have HE0 := Lib.hid hE0
 have HR0 := Lib.hid hr0
 clear hW0 hE0 hr0
 go_cut [5, 6] from 18 (fun s5 s6 wx => ∃ g5 g6 : Nat, s5 = .slice (some ⟨g5, 0, none⟩) 64 64 ∧ s6 = .slice (some ⟨g6, 0, none⟩) 64 64 ∧ g5 ≠ g6 ∧ W0.heap.size ≤ g5 ∧ W0.heap.size ≤ g6 ∧ Blk8 wx g5 (List.replicate 64 0) ∧ Blk8 wx g6 (List.replicate 64 0) ∧ Ext W0 wx)
 case first =>
  have m1 := (Ext.alloc (W0.alloc (.cells (madeCells #[.int .u8 0] 64) 5)) (.cells (madeCells #[.int .u8 0] 64) 5)).at_ (Blk8.made W0 64)
  have m2 := Blk8.made (W0.alloc (.cells (madeCells #[.int .u8 0] 64) 5)) 64
  rw [World.size_alloc] at m2
  have mE : Ext W0 ((W0.alloc (.cells (madeCells #[.int .u8 0] 64) 5)).alloc (.cells (madeCells #[.int .u8 0] 64) 5)) := (Ext.alloc _ _).trans (Ext.alloc _ _)
  go_region_with (first | (go_at_call 134; refine (block3 _).mono ?_; rintro e w1 ⟨rfl, rfl⟩))
  all_goals
   go_wp2_with fail
   go_meet
   case rel => first
    | exact ⟨_, _, rfl, rfl, by omega, by omega, by omega, m1, m2, by first | exact mE | exact mE.trans (Ext.drew _) | exact mE.trans (Ext.drewN _ _)⟩
    | exact ⟨_, _, rfl, rfl, by omega, by omega, by omega, m2, m1, by first | exact mE | exact mE.trans (Ext.drew _) | exact mE.trans (Ext.drewN _ _)⟩
 case rest =>
  obtain ⟨g5, g6, rfl, rfl, hne, l5, l6, h5, h6, hE1⟩ := hcut
  have hEw : Ext w wc := HE0.out.trans hE1
  have hpc := HP.out.below hEw HPP.out
  obtain ⟨W5, hr5, hk5, hj5⟩ := copy8 h5 hpc hl
  have hw0 := HE0.out.bsize
  have hE5 : Ext w W5 := hj5.ext hEw (by omega)
  have h6' := hj5.at_ hne.symm h6
  obtain ⟨W6, hr6, hk6, hj6⟩ := copy8 h6' (HP.out.below hE5 HPP.out) hl
  have hE6 : Ext w W6 := hj6.ext hE5 (by omega)
  have hk5' : Blk8 W6 g5 _ := hj6.at_ hne hk5
  obtain ⟨kz, hkz⟩ : ∃ l, key ++ List.replicate (64 - key.length) 0 = l := ⟨_, rfl⟩
  have hzl : kz.length = 64 := by rw [← hkz]; simp; omega
  have hzb : ∀ x ∈ kz, x < 256 := by
   rw [← hkz]
   intro x hx
   rcases List.mem_append.1 hx with h | h
   · exact HP.out.2.1 x h
   · rw [(List.mem_replicate.1 h).2]; omega
  have hm54 := turned_all (c := 54) hl rfl
  have hm92 := turned_all (c := 92) hl rfl
  rw [hkz] at hk5' hk6 hm54 hm92
  have HE6 := Lib.hid hE6
  have HZL := Lib.hid hzl
  have HZB := Lib.hid hzb
  have H54 := Lib.hid hm54
  have H92 := Lib.hid hm92
  have HK5 := Lib.hid (show Blk8 W6 g5 (turned kz 54 0) by simpa [turned] using hk5')
  have HK6 := Lib.hid (show Blk8 W6 g6 (turned kz 92 0) by simpa [turned] using hk6)
  have Hr0 := Lib.hid (show W6.heap[w.heap.size]? = some (.cells #[.pointer none, .pointer none] 173 (0, 0)) from hj6.at_ (by have := blk_lt HR0.out; omega) (hj5.at_ (by have := blk_lt HR0.out; omega) (hE1.at_ HR0.out)))
  clear hkz hzl hzb hm54 hm92 hk5 hk5' hk6 hj5 hj6 hE5 hE6 h5 h6 h6' hpc hE1 hEw HE0 HR0 hmk
  go_wp2_with fail
  clear hr5 hr6
  have l5w : w.heap.size ≤ g5 := by omega
  have l6w : w.heap.size ≤ g6 := by omega
  go_loopw [32] (fun iv wr => ∃ (k : Nat), iv = .int .i64 (k : Int) ∧ k ≤ 64 ∧ Hid (Blk8 wr g5 (turned kz 54 k)) ∧ Hid (Blk8 wr g6 (turned kz 92 k)) ∧ Hid (wr.heap[w.heap.size]? = some (.cells #[.pointer none, .pointer none] 173 (0, 0))) ∧ Hid (Ext w wr)) (fun iv _ => (64 - intOf iv).toNat)
  case atStart => exact ⟨0, rfl, by omega, HK5, HK6, Hr0, HE6⟩
  case round =>
   clear HK5 HK6 Hr0 HE6
   obtain ⟨k, rfl, hk64, H5, H6, H0, HE⟩ := hrel
   by_cases hlt : k < 64
   · have k64 : (k : Int) < 64 := by omega
     have hzl := HZL.out
     have q5 := H5.out.cell (i := k) (by rw [turned_len]; omega)
     have f5 := H5.out.free k
     have q6 := H6.out.cell (i := k) (by rw [turned_len]; omega)
     rw [turned_get (by omega)] at q5 q6
     have s5 := H5.out.set k (dg kz k ^^^ 54)
     have s6 := H6.out.set k (dg kz k ^^^ 92)
     rw [turned_step (by omega)] at s5 s6
     have hx256 : dg kz k < 256 := getD_lt (by omega) HZB.out k
     obtain ⟨x, hx⟩ : ∃ x, dg kz k = x := ⟨_, rfl⟩
     rw [hx] at q5 q6 s5 s6 hx256
     have e54 := u8_xor_nat x 54 hx256 (by omega)
     have e92 := u8_xor_nat x 92 hx256 (by omega)
     obtain ⟨y5, hy5⟩ : ∃ y, x ^^^ 54 = y := ⟨_, rfl⟩
     obtain ⟨y6, hy6⟩ : ∃ y, x ^^^ 92 = y := ⟨_, rfl⟩
     rw [hy5] at e54 s5
     rw [hy6] at e92 s6
     simp only [Int.cast_ofNat_Int] at e54 e92
     have j5 := (Just.refl g5 wr).set k (.int .u8 (y5 : Int))
     have q6' := (j5.cell (p := ⟨g6, k, none⟩) (blk_lt H6.out) hne.symm).trans q6
     have H6a : Blk8 (wr.setCell ⟨g5, k, none⟩ (.int .u8 (y5 : Int))) g6 (turned kz 92 k) := j5.at_ hne.symm H6.out
     have f6 := H6a.free k
     have s6a := H6a.set k (x ^^^ 92)
     rw [← hx, turned_step (by omega), hx, hy6] at s6a
     have j6 := (Just.refl g6 (wr.setCell ⟨g5, k, none⟩ (.int .u8 (y5 : Int)))).set k (.int .u8 (y6 : Int))
     have H5b := Lib.hid (show Blk8 _ g5 (turned kz 54 (k + 1)) from j6.at_ hne s5)
     have H6b := Lib.hid s6a
     have H0b := Lib.hid (j6.at_ (o := .cells #[.pointer none, .pointer none] 173 (0, 0)) (c := w.heap.size) (fun e => by have h1 := H6.out; have h0 := H0.out; rw [e] at h0; unfold Blk8 at h1; rw [h0] at h1; injection Option.some.inj h1 with _ e2; exact absurd e2 (by decide)) (j5.at_ (fun e => by have h1 := H5.out; have h0 := H0.out; rw [e] at h0; unfold Blk8 at h1; rw [h0] at h1; injection Option.some.inj h1 with _ e2; exact absurd e2 (by decide)) H0.out))
     have HEb := Lib.hid (j6.ext (j5.ext HE.out l5w) l6w)
     clear hx hy5 hy6 s5 s6 s6a j5 j6 H6a H5 H6 H0 HE hzl q6
     go_wp2_with fail
     go_roundw
     case rel => exact ⟨k + 1, by go_num, by omega, H5b, H6b, H0b, HEb⟩
     case measure => simp [intOf]; omega
   · obtain rfl : k = 64 := by omega
     rw [show ((64 : Nat) : Int) = 64 from rfl]
     have h5 := H5.out
     have h6 := H6.out
     rw [H54.out] at h5
     rw [H92.out] at h6
     have H5m := Lib.hid h5
     have H6m := Lib.hid h6
     clear h5 h6 H5 H6 hlt hk64
     have hnew := Lib.hid new3
     go_wp2_with fail
     refine (hnew.out _).mono ?_
     rintro e w1 ⟨b1, rfl, hb1, lb1, hE1⟩
     go_wp2_with fail
     refine (hnew.out _).mono ?_
     rintro e w2 ⟨b2, rfl, hb2, lb2, hE2⟩
     have Hb1 := Lib.hid (hb1.ext hE2)
     have Hb2 := Lib.hid hb2
     have hb12 : b1 < b2 := Nat.lt_of_lt_of_le hb1.lt lb2
     have HEE := Lib.hid (hE1.trans hE2)
     clear hb1 hb2 hE1 hE2
     go_upto_region 13 with fail
     have hx8 := heap_alloc_new w2 (.cells #[.pointer (some ⟨b1, 0, none⟩), .pointer (some ⟨b2, 0, none⟩)] 173)
     have hA8 := Ext.alloc w2 (.cells #[.pointer (some ⟨b1, 0, none⟩), .pointer (some ⟨b2, 0, none⟩)] 173)
     obtain ⟨W3, hW3⟩ : ∃ W3, w2.alloc (.cells #[.pointer (some ⟨b1, 0, none⟩), .pointer (some ⟨b2, 0, none⟩)] 173) = W3 := ⟨_, rfl⟩
     have hz3 : W3.heap.size = w2.heap.size + 1 := by rw [← hW3, World.size_alloc]
     have zb2 := Hb2.out.lt
     rw [hW3] at hx8 hA8 ⊢
     obtain ⟨b8, hb8⟩ : ∃ b, w2.heap.size = b := ⟨_, rfl⟩
     rw [hb8] at hx8 zb2 hz3 ⊢
     have hE3 := (HE.out.trans HEE.out).trans hA8
     have HE3 := Lib.hid hE3
     have hR3 := (HEE.out.trans hA8).at_ H0.out
     have h53 := (HEE.out.trans hA8).at_ H5m.out
     have h63 := (HEE.out.trans hA8).at_ H6m.out
     have hB1 := Hb1.out.ext hA8
     have hB2 := Hb2.out.ext hA8
     have zw := hE3.bsize
     have zr := blk_lt H0.out
     have zk := HK.out.lt
     have lb1' : w.heap.size ≤ b1 := Nat.le_trans HE.out.bsize lb1
     have kb54 := mask_lt (c := 54) HP.out.2.1 (by omega)
     have kb92 := mask_lt (c := 92) HP.out.2.1 (by omega)
     have n5b1 : g5 ≠ b1 := fun e => by have h1 := hB1.1; rw [← e, h53] at h1; injection Option.some.inj h1 with _ e2; exact absurd e2 (by decide)
     have n6b1 : g6 ≠ b1 := fun e => by have h1 := hB1.1; rw [← e, h63] at h1; injection Option.some.inj h1 with _ e2; exact absurd e2 (by decide)
     have wr1 := write_any (p := mask key 54) (F := W3.heap.size) W3 (HS.new hB1) (HK.out.ext hE3) (Blk8.rb (P := fun k => k = g5) h53 rfl kb54 (by rw [mask_len]; omega)) (fun k hk => by rw [hk]; exact blk_lt h53) hB1.lt (by omega) (Nat.le_refl _) (by simp [mask])
     rw [mask_len, List.nil_append] at wr1
     have Wr1 := Lib.hid wr1
     have c8 := blk_cell hx8 0
     simp only [List.getElem?_toArray, List.getElem?_cons_zero] at c8
     have KB92 := Lib.hid kb92
     have HB2 := Lib.hid hB2
     have HB1 := Lib.hid hB1
     clear wr1 hW3 hb8 hA8 hE3 kb54 kb92 hB1 hB2 hnew
     go_wp2_with fail
     refine Wr1.out.mono ?_
     rintro e W4 ⟨rfl, hs1, hf1⟩
     have z4 := hf1.size
     have zb1 := HB1.out.lt
     have hB2' : HB W4 b2 s256.list (.slice none 0 0) 0 := ⟨hf1.at_ HB2.out.lt (by omega) HB2.out.1, HB2.out.2⟩
     have h64 := hf1.at_ (blk_lt h63) n6b1 h63
     have hx8' := hf1.at_ (by omega) (by omega) hx8
     have hR4 := hf1.at_ (by omega) (by omega) hR3
     have hE4 : Ext w W4 := hf1.ext' HE3.out lb1' (by omega)
     have wr2 := write_any (p := mask key 92) (F := W4.heap.size) W4 (HS.new hB2') (HK.out.ext hE4) (Blk8.rb (P := fun k => k = g6) h64 rfl KB92.out (by rw [mask_len]; omega)) (fun k hk => by rw [hk]; exact blk_lt h64) hB2'.lt (by omega) (Nat.le_refl _) (by simp [mask])
     rw [mask_len, List.nil_append] at wr2
     have Wr2 := Lib.hid wr2
     have HS1 := Lib.hid hs1
     have HE4 := Lib.hid hE4
     have HB2' := Lib.hid hB2'
     have c8 := blk_cell hx8' 1
     simp only [List.getElem?_toArray, List.getElem?_cons_zero, List.getElem?_cons_succ] at c8
     have n6b2 : w.heap.size ≠ b2 := by have := HE.out.bsize; omega
     clear wr2 hs1 hf1 hB2' hE4 h53 h63 h64 hx8 hR3
     go_wp2_with fail
     refine Wr2.out.mono ?_
     rintro e W5 ⟨rfl, hs2, hf2⟩
     have z5 := hf2.size
     have hx9 := hf2.at_ (by omega) (by omega) hx8'
     have hR5 := hf2.at_ (by omega) n6b2 hR4
     have hs1' := HS1.out.fr hf2 HB2'.out (by omega)
     have HE5 := Lib.hid (hf2.ext' HE4.out (by have := HE.out.bsize; omega) (by omega))
     have HS1' := Lib.hid hs1'
     have HS2 := Lib.hid hs2
     clear hs1' hs2 hf2 hx8' hR4 c8
     go_upto_region 15 with fail
     refine Par.region_txt 1 [0, 1] [] (fun j f X => match j with
      | 0 => f 0 = .agg #[.pointer (some ⟨b1, 0, none⟩), .pointer (some ⟨b2, 0, none⟩)]
      | _ => True) (by kernel_rfl) [(61, 0)] (by kernel_rfl) ?_
     refine lV0 1 0 hx9 (by kernel_rfl) ?_
     refine Par.AllOps.fin ⟨fun f X hX hR hal hap => ?_⟩
     have e0 : f 0 = .agg #[.pointer (some ⟨b1, 0, none⟩), .pointer (some ⟨b2, 0, none⟩)] := hR 0 (by decide)
     simp only [Par.putL, Act.put, List.setIfInBounds_toArray, List.set_cons_succ, List.set_cons_zero, e0]
     clear hR hal hap e0
     refine Par.Chain.next (fun K hK => ⟨Par.want (by kernel_rfl) (wp_storeV (cs' := #[.pointer (some ⟨b1, 0, none⟩), .pointer (some ⟨b2, 0, none⟩)]) (t := 173) 173 (.tmp 4) (.tmp 61) rfl rfl rfl rfl (hX.at_ hR5) (by kernel_rfl) rfl (by simp [Value.oneCell']) (fun Y hY1 hY2 hY3 => hK.out _ _ ?_))⟩)
     refine Par.Chain.done ?_
     have hfin1 : HS Y b1 (mask key 54) Y.heap.size := ((HS1'.out.ext hX).justk hY2 (by omega) (hX.at_ hR5) (by decide)).nil_up (by rw [mask_len])
     have hfin2 : HS Y b2 (mask key 92) Y.heap.size := ((HS2.out.ext hX).justk hY2 n6b2.symm (hX.at_ hR5) (by decide)).nil_up (by rw [mask_len])
     have hEY : Ext w Y := hY2.ext (HE5.out.trans hX) (Nat.le_refl _)
     go_wp2
     exact end_v rfl rfl rfl hY1 Tryz.underlying173 rfl (by kernel_rfl) ⟨b1, b2, rfl, by omega, lb1', by have := HE.out.bsize; omega, hfin1, hfin2, hEY⟩
end Go.Proofs.YtaemogcomplhiaaGreatDoor

namespace Go.Proofs.YtaemogcomplhiaaGreatDoor
open Go.RowKit
open Sha

def RP (w : World) (P : Nat → Prop) (A : Option Addr) (c : Nat) (ps : List (List Nat)) : Prop :=
 ∃ cs : List Value, RS w P 1 A ps.length c cs ∧ ∀ i, i < ps.length → ∃ Ai ci, cs[i]? = some (.slice Ai (ps.getD i []).length ci) ∧ RB w P Ai ci (ps.getD i [])
theorem RP.ext {w X : World} {P : Nat → Prop} {A : Option Addr} {c : Nat} {ps : List (List Nat)} (h : RP w P A c ps) (hE : Ext w X) (hP : ∀ k, P k → k < w.heap.size) : RP X P A c ps := by
 obtain ⟨cs, h1, h2⟩ := h
 exact ⟨cs, h1.below hE hP, fun i hi => let ⟨Ai, ci, e, h3⟩ := h2 i hi; ⟨Ai, ci, e, h3.below hE hP⟩⟩
theorem RP.at_ {w : World} {P : Nat → Prop} {A : Option Addr} {c : Nat} {ps : List (List Nat)} (h : RP w P A c ps) {i : Nat} (hi : i < ps.length) : ∃ ad Ai ci, A = some ad ∧ w.cell? (ad.add i) = some (.slice Ai (ps.getD i []).length ci) ∧ RB w P Ai ci (ps.getD i []) := by
 obtain ⟨cs, h1, h2⟩ := h
 obtain ⟨Ai, ci, e, h3⟩ := h2 i hi
 obtain ⟨ad, ea, _, _⟩ := h1.2.2.2 (by omega)
 subst ea
 exact ⟨ad, Ai, ci, rfl, h1.cell_ e, h3⟩
def joinK (ps : List (List Nat)) (k : Nat) : List Nat := (ps.take k).flatten
theorem joinK_succ {ps : List (List Nat)} {k : Nat} (h : k < ps.length) : joinK ps (k + 1) = joinK ps k ++ ps.getD k [] := by
 have e : ps[k]? = some (ps.getD k []) := by simp [h]
 rw [joinK, List.take_add_one, e, List.flatten_append]
 simp [joinK]
theorem joinK_all (ps : List (List Nat)) : joinK ps ps.length = ps.flatten := by simp [joinK]
theorem joinK_le (ps : List (List Nat)) {k : Nat} (_h : k < ps.length) : (joinK ps (k + 1)).length ≤ ps.flatten.length := by
 have e : ps.flatten = joinK ps (k + 1) ++ (ps.drop (k + 1)).flatten := by rw [joinK, ← List.flatten_append, List.take_append_drop]
 rw [e, List.length_append]; omega
set_option maxRecDepth 100000 in
set_option maxHeartbeats 8000000 in
theorem of_parts {b1 b2 F1 F2 : Nat} {m1 m2 : List Nat} {P : Nat → Prop} {A : Option Addr} {c : Nat} {ps : List (List Nat)} (w : World) (h1 : HS w b1 m1 F1) (h2 : HS w b2 m2 F2) (l1 : m1.length = 64) (l2 : m2.length = 64) (lm1 : ∀ x ∈ m1, x < 256) (lm2 : ∀ x ∈ m2, x < 256) (hk : KW w)
 (hp : RP w P A c ps) (hP : ∀ k, P k → k < w.heap.size) (hl : ps.flatten.length ≤ 300000) (hpb : ∀ x ∈ ps.flatten, x < 256) :
 Calls Tryz.prog 129 #[.agg #[.pointer (some ⟨b1, 0, none⟩), .pointer (some ⟨b2, 0, none⟩)], .slice A ps.length c] w fun e w' => ∃ A' c', e = .returned (.slice A' 32 c') ∧ OW w' w.heap.size A' c' (sha (m2 ++ sha (m1 ++ ps.flatten))) ∧ Ext w w' := by
 have hEb := Ext.alloc w (.cells #[.pointer (some ⟨b1, 0, none⟩), .pointer (some ⟨b2, 0, none⟩)] 173)
 have hxb := heap_alloc_new w (.cells #[.pointer (some ⟨b1, 0, none⟩), .pointer (some ⟨b2, 0, none⟩)] 173)
 obtain ⟨W0, hW0⟩ : ∃ W0, w.alloc (.cells #[.pointer (some ⟨b1, 0, none⟩), .pointer (some ⟨b2, 0, none⟩)] 173) = W0 := ⟨_, rfl⟩
 rw [hW0] at hEb hxb
 have H1 := Lib.hid (fun X (hX : Ext W0 X) => hcopy_any X (h1.ext (hEb.trans hX)))
 have H2 := Lib.hid (fun X (hX : Ext W0 X) => hcopy_any X (h2.ext (hEb.trans hX)))
 have HP := Lib.hid (hp.ext hEb hP)
 have HPP := Lib.hid (show ∀ k, P k → k < W0.heap.size from fun k hk' => Nat.lt_of_lt_of_le (hP k hk') hEb.bsize)
 have HK := Lib.hid (hk.ext hEb)
 have HE := Lib.hid hEb
 have HW0 := Lib.hid hW0
 have Hl := Lib.hid hl
 have Hpb := Lib.hid hpb
 have L1 := Lib.hid l1
 have L2 := Lib.hid l2
 have LM1 := Lib.hid lm1
 have LM2 := Lib.hid lm2
 have zps : ps.length ≤ maxLen := by obtain ⟨_, h, _⟩ := hp; exact Nat.le_trans h.1 h.2.1
 have l1' := l1
 have l2' := l2
 have zk := hk.lt
 have zw := hEb.bsize
 obtain ⟨q0, hq0⟩ : ∃ q, w.heap.size = q := ⟨_, rfl⟩
 have Hq := Lib.hid hq0
 rw [hq0] at hxb zk zw
 have c0 := blk_cell hxb 0
 have c1 := blk_cell hxb 1
 simp only [List.getElem?_toArray, List.getElem?_cons_zero, List.getElem?_cons_succ] at c0 c1
 clear h1 h2 hp hP hk hEb hW0 hl hpb l1 l2 lm1 lm2 hxb
 go_enter Tryz.func129, Tryz.ntmps129
 go_upto_region 1 with fail
 rw [HW0.out]
 clear HW0 hq0
 refine Par.region_ext (by kernel_rfl) 8 [0, 1, 3, 0, 8, 31, 63, 127] [] (fun j f X => match j with
  | 0 => f 0 = .pointer (some ⟨q0, 0, none⟩)
  | 1 => f 1 = .pointer (some ⟨b1, 0, none⟩)
  | 2 => ∃ b', f 2 = .pointer (some ⟨b', 0, none⟩) ∧ W0.heap.size ≤ b' ∧ b' < X.heap.size ∧ HS X b' m1 (b' + 1)
  | 3 => f 3 = .pointer (some ⟨q0, 1, none⟩)
  | 4 => f 4 = .pointer (some ⟨b2, 0, none⟩)
  | 5 => ∃ b' b'', f 5 = .pointer (some ⟨b', 0, none⟩) ∧ f 2 = .pointer (some ⟨b'', 0, none⟩) ∧ b'' < b' ∧ b' < X.heap.size ∧ W0.heap.size ≤ b' ∧ HS X b' m2 (b' + 1)
  | 6 => ∃ b', f 6 = .pointer (some ⟨b', 0, none⟩) ∧ f 2 = .pointer (some ⟨b', 0, none⟩) ∧ W0.heap.size ≤ b' ∧ b' < X.heap.size ∧ HS X b' m1 (b' + 1)
  | 7 => ∃ b' b'', f 7 = .pointer (some ⟨b', 0, none⟩) ∧ f 2 = .pointer (some ⟨b'', 0, none⟩) ∧ b'' < b' ∧ b' < X.heap.size ∧ W0.heap.size ≤ b' ∧ HS X b' m2 (b' + 1)
  | _ => True) (by kernel_rfl) [(9, 0), (10, 1), (11, 2), (12, 3), (13, 4), (14, 5), (5, 6), (6, 7)] (by kernel_rfl) ?_
 refine Par.v0 1 7 ?_
 refine Par.ld1 2 6 0 c0 ?_
 refine Par.c0 3 5 (fun f => #[f 1]) (F' := 138) (fun f X hX hR => ?_) ?_
 · have e1 : f 1 = _ := hR.out 1 rfl
   simp only [e1]
   refine (H1.out X hX).mono ?_
   rintro e w2 ⟨b', rfl, hl, hs, hB⟩
   exact ⟨_, rfl, hB, fun Y hY => ⟨b', rfl, Nat.le_trans hX.bsize hl, Nat.lt_of_lt_of_le hs.lt hY.bsize, hs.ext hY⟩⟩
 refine Par.v0 4 4 ?_
 refine Par.ld1 5 3 3 c1 ?_
 refine Par.c0 6 2 (fun f => #[f 4]) (F' := 138) (fun f X hX hR => ?_) ?_
 · have e4 : f 4 = _ := hR.out 4 rfl
   obtain ⟨b5, e2, l5, z5, h5⟩ := hR.out 2 rfl
   simp only [e4]
   refine (H2.out X hX).mono ?_
   rintro e w2 ⟨b', rfl, hl, hs, hB⟩
   exact ⟨_, rfl, hB, fun Y hY => ⟨b', b5, rfl, e2, Nat.lt_of_lt_of_le z5 hl, Nat.lt_of_lt_of_le hs.lt hY.bsize, Nat.le_trans hX.bsize hl, hs.ext hY⟩⟩
 refine Par.S 7 1 [(9, 0), (10, 1), (11, 2), (12, 3), (13, 4), (14, 5)] (fun f X hX hR K hK => ?_) ?_
 · obtain ⟨b5, (e2 : f 2 = _), l5, z5, h5⟩ := hR.out 2 rfl
   simp only [yA, yB, yC, yD, yE, e2]
   refine ⟨?_⟩
   go_simp
   exact hK.out _ _ _ (by simp only [yA, yB, yC, yD, yE, e2]) (Ext.refl _) trivial (fun Y hY => ⟨b5, rfl, e2, l5, Nat.lt_of_lt_of_le z5 hY.bsize, h5.ext hY⟩)
 refine Par.S 8 0 [(9, 0), (10, 1), (11, 2), (12, 3), (13, 4), (14, 5), (5, 6)] (fun f X hX hR K hK => ?_) ?_
 · obtain ⟨b6, b5', e5, e5', l56, z6, l6, h6⟩ : ∃ b' b'', f 5 = .pointer (some ⟨b', 0, none⟩) ∧ f 2 = .pointer (some ⟨b'', 0, none⟩) ∧ b'' < b' ∧ b' < X.heap.size ∧ W0.heap.size ≤ b' ∧ HS X b' m2 (b' + 1) := hR.out 5 rfl
   simp only [yA, yB, yC, yD, yE, e5]
   refine ⟨?_⟩
   go_simp
   exact hK.out _ _ _ (by simp only [yA, yB, yC, yD, yE, e5, e5']) (Ext.refl _) trivial (fun Y hY => ⟨b6, b5', rfl, e5', l56, Nat.lt_of_lt_of_le z6 hY.bsize, l6, h6.ext hY⟩)
 refine Par.AllOps.fin ⟨fun f X hX hR hal hap => ?_⟩
 obtain ⟨b5, (e2 : f 2 = _), l5, z5, h5⟩ := hR 2 (by decide)
 obtain ⟨b6, b5', e5, e5', l56, z6, l6, h6⟩ : ∃ b' b'', f 5 = .pointer (some ⟨b', 0, none⟩) ∧ f 2 = .pointer (some ⟨b'', 0, none⟩) ∧ b'' < b' ∧ b' < X.heap.size ∧ W0.heap.size ≤ b' ∧ HS X b' m2 (b' + 1) := hR 5 (by decide)
 obtain ⟨b7, e6, e6', l7, z7, h7⟩ : ∃ b', f 6 = .pointer (some ⟨b', 0, none⟩) ∧ f 2 = .pointer (some ⟨b', 0, none⟩) ∧ W0.heap.size ≤ b' ∧ b' < X.heap.size ∧ HS X b' m1 (b' + 1) := hR 6 (by decide)
 obtain ⟨b8, b8', e7, e7', l8, z8, l8', h8⟩ : ∃ b' b'', f 7 = .pointer (some ⟨b', 0, none⟩) ∧ f 2 = .pointer (some ⟨b'', 0, none⟩) ∧ b'' < b' ∧ b' < X.heap.size ∧ W0.heap.size ≤ b' ∧ HS X b' m2 (b' + 1) := hR 7 (by decide)
 simp only [yA, yB, yD, yE, e2, e5, e6, e7]
 clear hR hal hap e2 e5 e6 e7
 refine Par.Chain.done ?_
 simp only [Value.pointer.injEq, Option.some.injEq, Addr.mk.injEq, e5'] at e7' e6' e5'
 obtain rfl := e6'.1
 obtain rfl := e7'.1
 have zg : 3 < X.heap.size := by have := hX.bsize; omega
 have r1 : m1.length % 64 = 0 := by rw [l1']
 have r2 : m2.length % 64 = 0 := by rw [l2']
 have j0 : joinK ps 0 = [] := by simp [joinK]
 have H7 := Lib.hid (show ∃ Fk, HS X b5' (m1 ++ joinK ps 0) Fk ∧ b5' < Fk ∧ b8 < Fk ∧ 3 < Fk ∧ Fk ≤ X.heap.size from ⟨X.heap.size, by rw [j0, List.append_nil]; exact h7.nil_up r1, z7, z8, zg, Nat.le_refl _⟩)
 have H8 := Lib.hid h8
 have HX := Lib.hid hX
 have R1 := Lib.hid r1
 have R2 := Lib.hid r2
 have n58 : b5' ≠ b8 := by omega
 clear h5 h6 h7 h8 e5' e6' e7' H1 H2 c0 c1 r1 r2 j0 hX l5 z5 l56 z6 l6
 go_wp2_with fail
 go_loopw [17] (fun iv wr => ∃ (k : Nat), iv = .int .i64 (k : Int) ∧ k ≤ ps.length ∧ Hid (∃ Fk, HS wr b5' (m1 ++ joinK ps k) Fk ∧ b5' < Fk ∧ b8 < Fk ∧ 3 < Fk ∧ Fk ≤ wr.heap.size) ∧ Hid (HS wr b8 m2 (b8 + 1)) ∧ Hid (Ext W0 wr)) (fun iv _ => ps.length - (intOf iv).toNat)
 case atStart => exact ⟨0, rfl, by omega, H7, H8, HX⟩
 case round =>
  clear H7 H8 HX
  obtain ⟨k, rfl, hkl, H7, H8, HX⟩ := hrel
  have zps' : ps.length ≤ 9223372036854775807 := zps
  by_cases hlt : k < ps.length
  · have kl : (k : Int) < (ps.length : Int) := by omega
    obtain ⟨Fk, h7, f1, f2, f3, f4⟩ := H7.out
    obtain ⟨ad, Ai, ci, rfl, ca, hrb⟩ := (HP.out.ext HX.out HPP.out).at_ hlt
    have hjs := joinK_succ hlt
    have hjl := joinK_le ps hlt
    have hll : (m1 ++ joinK ps k ++ ps.getD k []).length ≤ 500000 := by rw [List.append_assoc, ← hjs, List.length_append]; have := Hl.out; have := L1.out; omega
    have hwr := Lib.hid (write_any wr h7 (HK.out.ext HX.out) hrb (fun x hx => Nat.lt_of_lt_of_le (HPP.out x hx) HX.out.bsize) f1 f3 f4 hll)
    rw [List.append_assoc, ← hjs] at hwr
    have f5 := H7.out
    obtain ⟨p, hp⟩ : ∃ p, ps.getD k [] = p := ⟨_, rfl⟩
    rw [hp] at hwr ca
    clear hjs hjl hll hrb h7 H7 hp
    go_wp2_with fail
    refine hwr.out.mono ?_
    rintro e wn ⟨rfl, hs, hf⟩
    have H7n := Lib.hid (show ∃ F, HS wn b5' (m1 ++ joinK ps (k + 1)) F ∧ b5' < F ∧ b8 < F ∧ 3 < F ∧ F ≤ wn.heap.size from ⟨_, hs, by omega, by omega, by omega, hf.size⟩)
    have H8n := Lib.hid (H8.out.nilfr R2.out hf f2 n58.symm)
    have HXn := Lib.hid (hf.ext' HX.out l7 (by omega))
    clear hs hf f5 H8 HX hwr
    go_wp2_with fail
    go_roundw
    case rel => exact ⟨k + 1, by go_num, by omega, H7n, H8n, HXn⟩
    case measure => simp [intOf]; omega
  · obtain rfl : k = ps.length := by omega
    obtain ⟨Fk, h7, f1, f2, f3, f4⟩ := H7.out
    rw [joinK_all] at h7
    have hl1 := L1.out
    have hl2 := L2.out
    have hll := Hl.out
    obtain ⟨ff, hff⟩ : ∃ f, ps.flatten = f := ⟨_, rfl⟩
    have hfb := Hpb.out
    rw [hff] at h7 hll hfb
    have HFF := Lib.hid hff
    clear hff
    have hsm := Lib.hid (sum_any wr h7 (HK.out.ext HX.out) (by rw [List.length_append]; omega) (fun x hx => (List.mem_append.1 hx).elim (LM1.out x) (hfb x)))
    clear h7 H7 hll hfb Hl Hpb
    go_wp2_with fail
    refine hsm.out.mono ?_
    rintro e wa ⟨As, cs, rfl, hos, hEs⟩
    have hEa := HX.out.trans hEs
    have hls := sha_length (m1 ++ ff)
    have hlb := sha_lt (m1 ++ ff)
    obtain ⟨t, ht⟩ : ∃ t, sha (m1 ++ ff) = t := ⟨_, rfl⟩
    rw [ht] at hos hls hlb
    have H8a := (H8.out.nil_up (G := wa.heap.size) R2.out).ext hEs
    have hwr := Lib.hid (write_any wa H8a (HK.out.ext hEa) (hos.rb (by omega)) (fun x hx => hx.2) H8a.lt (by have := hEs.bsize; omega) (Nat.le_refl _) (by rw [List.length_append]; omega))
    rw [hls] at hwr
    have HT := Lib.hid ht
    have HLB := Lib.hid hlb
    have HLS := Lib.hid hls
    have HEa := Lib.hid hEa
    clear H8a hos hEs hEa hls hlb ht HX H8 hsm
    go_wp2_with fail
    refine hwr.out.mono ?_
    rintro e wb ⟨rfl, hsb, hfb⟩
    have hEb := hfb.ext' HEa.out l8' HEa.out.bsize
    have hsm := Lib.hid (sum_any wb hsb (HK.out.ext hEb) (by rw [List.length_append, HLS.out]; omega) (fun x hx => (List.mem_append.1 hx).elim (LM2.out x) (HLB.out x)))
    have HEb := Lib.hid hEb
    clear hsb hfb hEb hwr HEa
    go_wp2_with fail
    refine hsm.out.mono ?_
    rintro e wc ⟨Ar, cr, rfl, hor, hEr⟩
    have HOr := Lib.hid hor
    have HEr := Lib.hid (HEb.out.trans hEr)
    have HEe := Lib.hid HEb.out.bsize
    clear hor hEr hsm
    go_wp2_with fail
    go_ret
    refine ⟨Ar, cr, rfl, ?_, HE.out.trans HEr.out⟩
    rw [HFF.out, HT.out]
    exact HOr.out.mono (by have := HE.out.bsize; have := HEe.out; omega)
end Go.Proofs.YtaemogcomplhiaaGreatDoor

namespace Go.Proofs.YtaemogcomplhiaaGreatDoor
open Go.RowKit
open Sha

set_option maxRecDepth 100000 in
set_option maxHeartbeats 8000000 in
theorem hmac_any {P Q : Nat → Prop} {A B : Option Addr} {c d : Nat} {key : List Nat} {ps : List (List Nat)} (w : World) (hk : KW w) (hp : RB w P A c key) (hP : ∀ k, P k → k < w.heap.size) (hl0 : 0 < key.length) (hl : key.length ≤ 64)
 (hq : RP w Q B d ps) (hQ : ∀ k, Q k → k < w.heap.size) (hlf : ps.flatten.length ≤ 300000) (hpb : ∀ x ∈ ps.flatten, x < 256) :
 Calls Tryz.prog 99 #[.int .i64 3, .slice A key.length c, .slice B ps.length d] w fun e w' => ∃ A' c', e = .returned (.slice A' 32 c') ∧ OW w' w.heap.size A' c' (hmac key ps.flatten) ∧ Ext w w' := by
 have hkb := hp.2.1
 have H1 := Lib.hid (newKeyed_any w hk hp hP hl0 hl)
 have HKB := Lib.hid hkb
 have HK := Lib.hid hk
 have HQ := Lib.hid hq
 have HQQ := Lib.hid hQ
 have HL := Lib.hid hlf
 have HPB := Lib.hid hpb
 have Hle := Lib.hid hl
 clear hk hp hP hl0 hl hq hQ hlf hpb hkb
 go_enter Tryz.func99, Tryz.ntmps99
 go_wp2_with fail
 refine (size3 _).mono ?_
 rintro e wn ⟨rfl, rfl⟩
 go_wp2_with fail
 refine H1.out.mono ?_
 rintro e W1 ⟨b1, b2, rfl, hne, l1, l2, hs1, hs2, hE⟩
 have H2 := Lib.hid (of_parts W1 hs1 hs2 (mask_len _ _) (mask_len _ _) (mask_lt HKB.out (by omega)) (mask_lt HKB.out (by omega)) (HK.out.ext hE) (HQ.out.ext hE HQQ.out) (fun k hk => Nat.lt_of_lt_of_le (HQQ.out k hk) hE.bsize) HL.out HPB.out)
 have HE := Lib.hid hE
 clear hs1 hs2 hE H1
 go_wp2_with fail
 refine H2.out.mono ?_
 rintro e W2 ⟨A', c', rfl, ho, hE2⟩
 have HO := Lib.hid ho
 have HE2 := Lib.hid hE2
 clear ho hE2 H2
 go_wp2_with fail
 go_ret
 exact ⟨A', c', rfl, HO.out.mono HE.out.bsize, HE.out.trans HE2.out⟩
end Go.Proofs.YtaemogcomplhiaaGreatDoor

namespace Go.Proofs.YtaemogcomplhiaaGreatDoor
open Go.RowKit
open Sha

set_option maxRecDepth 100000 in
set_option maxHeartbeats 8000000 in
theorem mac_any {b : Nat} {P Q : Nat → Prop} {A B : Option Addr} {c d : Nat} {key : List Nat} {ps : List (List Nat)} (w : World) (hk : KW w) (hb : w.cell? ⟨b, 0, none⟩ = some (.slice A key.length c)) (hp : RB w P A c key) (hP : ∀ k, P k → k < w.heap.size) (hl0 : 0 < key.length) (hl : key.length ≤ 64)
 (hq : RP w Q B d ps) (hQ : ∀ k, Q k → k < w.heap.size) (hlf : ps.flatten.length ≤ 300000) (hpb : ∀ x ∈ ps.flatten, x < 256) :
 Calls Tryz.prog 71 #[.pointer (some ⟨b, 0, none⟩), .slice B ps.length d] w fun e w' => ∃ A' c', e = .returned (.slice A' 32 c') ∧ OW w' w.heap.size A' c' (hmac key ps.flatten) ∧ Ext w w' := by
 have H := Lib.hid (hmac_any w hk hp hP hl0 hl hq hQ hlf hpb)
 clear hk hp hP hl0 hl hq hQ hlf hpb
 go_enter Tryz.func71, Tryz.ntmps71
 go_wp2_with fail
 refine H.out.mono ?_
 rintro e wn ⟨A', c', rfl, ho, hE⟩
 have HO := Lib.hid ho
 have HE := Lib.hid hE
 clear ho hE H
 go_wp2_with fail
 go_ret
 exact ⟨A', c', rfl, HO.out, HE.out⟩
end Go.Proofs.YtaemogcomplhiaaGreatDoor

namespace Go.Proofs.YtaemogcomplhiaaGreatDoor
open Go.RowKit
open Sha

def DR (w : World) (b : Nat) (k v : List Nat) (n : Int) : Prop :=
 ∃ Ak ck Av cv, w.heap[b]? = some (.cells #[.slice Ak 32 ck, .slice Av 32 cv, .int .i64 n] 70 (0, 0)) ∧ RB w (fun g => g < w.heap.size) Ak ck k ∧ RB w (fun g => g < w.heap.size) Av cv v ∧ k.length = 32 ∧ v.length = 32
theorem DR.lt {w : World} {b : Nat} {k v : List Nat} {n : Int} (h : DR w b k v n) : b < w.heap.size := let ⟨_, _, _, _, h, _⟩ := h; blk_lt h
theorem DR.ext {w X : World} {b : Nat} {k v : List Nat} {n : Int} (h : DR w b k v n) (hE : Ext w X) : DR X b k v n := by
 obtain ⟨Ak, ck, Av, cv, h1, h2, h3, h4, h5⟩ := h
 exact ⟨Ak, ck, Av, cv, hE.at_ h1, h2.upE hE, h3.upE hE, h4, h5⟩
theorem RB.dr {w X : World} {b : Nat} {k v : List Nat} {n : Int} {P : Nat → Prop} {A : Option Addr} {c : Nat} {d : List Nat} (h : RB w P A c d) (hP : ∀ k, P k → k < w.heap.size) (hd : DR w b k v n) (hf : Fr b w.heap.size w X) : RB X P A c d :=
 h.by_ fun q u hq hc => (World.cell?_of_block (hf.block _ (hP _ hq) (fun e => by
  obtain ⟨Ak, ck, Av, cv, h1, _⟩ := hd
  unfold World.cell? at hc
  rw [e, h1] at hc
  simp only at hc
  split at hc
  · cases hc
  · have hm := List.mem_of_getElem? (l := [Value.slice Ak 32 ck, .slice Av 32 cv, .int .i64 n]) (i := q.off) (by simpa using hc)
    simp at hm))).trans hc
theorem RB.dr' {w X : World} {b : Nat} {k v : List Nat} {n : Int} {A : Option Addr} {c : Nat} {d : List Nat} (h : RB w (fun g => g < w.heap.size) A c d) (hd : DR w b k v n) (hf : Fr b w.heap.size w X) : RB X (fun g => g < X.heap.size) A c d :=
 (h.dr (fun _ h => h) hd hf).mono fun _ hg => Nat.lt_of_lt_of_le hg hf.size
theorem DR.fr {w X : World} {b b' : Nat} {k v k' v' : List Nat} {n n' : Int} (h : DR w b k v n) (hf : Fr b' w.heap.size w X) (hb : DR w b' k' v' n') (hn : b ≠ b') : DR X b k v n := by
 obtain ⟨Ak, ck, Av, cv, h1, h2, h3, h4, h5⟩ := h
 exact ⟨Ak, ck, Av, cv, hf.at_ (blk_lt h1) hn h1, h2.dr' hb hf, h3.dr' hb hf, h4, h5⟩
theorem DR.frS {w : World} {b : Nat} (i : Nat) (u : Value) : Fr b w.heap.size w (w.setCell ⟨b, i, none⟩ u) := Fr.just ((Just.refl b w).set i u) (Nat.le_refl _)
theorem DR.setK {w : World} {b c : Nat} {A : Option Addr} {k k' v : List Nat} {n : Int} (h : DR w b k v n) (ho : RB w (fun g => g < w.heap.size) A c k') (hl : k'.length = 32) : DR (w.setCell ⟨b, 0, none⟩ (.slice A 32 c)) b k' v n := by
 have hd := h
 obtain ⟨Ak, ck, Av, cv, h1, h2, h3, h4, h5⟩ := h
 exact ⟨A, c, Av, cv, blk_set h1 0 _, ho.dr' hd (DR.frS _ _), h3.dr' hd (DR.frS _ _), hl, h5⟩
theorem DR.setV {w : World} {b c : Nat} {A : Option Addr} {k v v' : List Nat} {n : Int} (h : DR w b k v n) (ho : RB w (fun g => g < w.heap.size) A c v') (hl : v'.length = 32) : DR (w.setCell ⟨b, 1, none⟩ (.slice A 32 c)) b k v' n := by
 have hd := h
 obtain ⟨Ak, ck, Av, cv, h1, h2, h3, h4, h5⟩ := h
 exact ⟨Ak, ck, A, c, blk_set h1 1 _, h2.dr' hd (DR.frS _ _), ho.dr' hd (DR.frS _ _), h4, hl⟩
theorem DR.setN {w : World} {b : Nat} {k v : List Nat} {n : Int} (h : DR w b k v n) (m : Int) : DR (w.setCell ⟨b, 2, none⟩ (.int .i64 m)) b k v m := by
 have hd := h
 obtain ⟨Ak, ck, Av, cv, h1, h2, h3, h4, h5⟩ := h
 exact ⟨Ak, ck, Av, cv, blk_set h1 2 _, h2.dr' hd (DR.frS _ _), h3.dr' hd (DR.frS _ _), h4, h5⟩
theorem hmac_len (k m : List Nat) : (hmac k m).length = 32 := sha_length _
def half (k v d : List Nat) (c : Nat) : List Nat × List Nat := (hmac k (v ++ [c] ++ d), hmac (hmac k (v ++ [c] ++ d)) v)
def upd2 (k v d : List Nat) : List Nat × List Nat := if d.length = 0 then half k v d 0 else half (half k v d 0).1 (half k v d 0).2 d 1
theorem OW.rb' {w : World} {base : Nat} {A : Option Addr} {c : Nat} {bs : List Nat} (h : OW w base A c bs) (hl : bs.length ≤ 100000000) : RB w (fun k => k < w.heap.size) A c bs := (h.rb hl).mono fun _ hk => hk.2
theorem RS.lit (w : World) (cs : Array Value) (t : TypeId) (hl : cs.size ≤ maxLen) : RS (w.alloc (.cells cs t)) (fun k => k < (w.alloc (.cells cs t)).heap.size) 1 (some ⟨w.heap.size, 0, none⟩) cs.size cs.size cs.toList :=
 RS.fresh cs t 1 cs.size (by simp) hl (by rw [World.size_alloc]; omega)
theorem mac3 {b x : Nat} {k v : List Nat} {n : Int} {P : Nat → Prop} {A : Option Addr} {c : Nat} {d : List Nat} (w : World) (hk : KW w) (hd : DR w b k v n) (hx : x < 256) (hp : RB w P A c d) (hP : ∀ k, P k → k < w.heap.size) (hl : d.length ≤ 200000) {Av : Option Addr} {cv : Nat} (hv : w.cell? ⟨b, 1, none⟩ = some (.slice Av 32 cv)) :
 Calls Tryz.prog 71 #[.pointer (some ⟨b, 0, none⟩), .slice (some ⟨w.heap.size + 1, 0, none⟩) 3 3] ((w.alloc (.cells #[.int .u8 (x : Int)] 5)).alloc (.cells #[.slice Av 32 cv, .slice (some ⟨w.heap.size, 0, none⟩) 1 1, .slice A d.length c] 22))
  fun e w' => ∃ A' c', e = .returned (.slice A' 32 c') ∧ OW w' w.heap.size A' c' (hmac k (v ++ [x] ++ d)) ∧ Ext w w' := by
 obtain ⟨W1, hW1⟩ : ∃ W, w.alloc (.cells #[.int .u8 (x : Int)] 5) = W := ⟨_, rfl⟩
 have hx1 := OW.lit w x hx
 have hE1 : Ext w W1 := by rw [← hW1]; exact Ext.alloc _ _
 have hz1 : w.heap.size + 1 = W1.heap.size := by rw [← hW1, World.size_alloc]
 rw [hW1] at hx1 ⊢
 rw [hz1]
 have hE2 := Ext.alloc W1 (.cells #[.slice Av 32 cv, .slice (some ⟨w.heap.size, 0, none⟩) 1 1, .slice A d.length c] 22)
 have hr := RS.lit W1 #[.slice Av 32 cv, .slice (some ⟨w.heap.size, 0, none⟩) 1 1, .slice A d.length c] 22 (by simp [maxLen])
 obtain ⟨W2, hW2⟩ : ∃ W, W1.alloc (.cells #[.slice Av 32 cv, .slice (some ⟨w.heap.size, 0, none⟩) 1 1, .slice A d.length c] 22) = W := ⟨_, rfl⟩
 rw [hW2] at hE2 hr ⊢
 have hE := hE1.trans hE2
 obtain ⟨Ak, ck, Av', cv', h1, h2, h3, h4, h5⟩ := hd
 have e1 := blk_cell h1 1
 rw [hv] at e1
 simp only [List.getElem?_toArray, List.getElem?_cons_zero, List.getElem?_cons_succ, Option.some.injEq, Value.slice.injEq] at e1
 obtain ⟨rfl, _, rfl⟩ := e1
 have c0 : W2.cell? ⟨b, 0, none⟩ = some (.slice Ak 32 ck) := hE.cell (blk_cell h1 0)
 have o2 := h2.upE hE
 have o3 := h3.upE hE
 have o1 := (hx1.same (w' := W2) fun g _ cs hk => hE2.at_ hk).rb' (by simp)
 have hq : RP W2 (fun k => k < W2.heap.size) (some ⟨W1.heap.size, 0, none⟩) 3 [v, [x], d] := by
  refine ⟨_, hr, fun i hi => ?_⟩
  match i, hi with
  | 0, _ => exact ⟨Av, cv, by simp [h5], o3⟩
  | 1, _ => exact ⟨some ⟨w.heap.size, 0, none⟩, 1, by simp, o1⟩
  | 2, _ => exact ⟨A, c, by simp, (hp.below hE hP).mono fun k hk => Nat.lt_of_lt_of_le (hP k hk) hE.bsize⟩
  | i + 3, hi => exact absurd hi (by simp only [List.length_cons, List.length_nil]; omega)
 rw [← h4] at c0
 have hm := mac_any W2 (hk.ext hE) c0 o2 (fun _ h => h) (by omega) (by omega) hq (fun _ h => h) (by simp [h5]; omega) (by
  intro y hy
  simp only [List.flatten_cons, List.flatten_nil, List.append_nil, List.mem_append, List.mem_singleton] at hy
  rcases hy with hy | hy | hy
  · exact o3.2.1 y hy
  · omega
  · exact hp.2.1 y hy)
 refine hm.mono ?_
 rintro e w' ⟨A', c', rfl, ho, hE'⟩
 refine ⟨A', c', rfl, ?_, hE.trans hE'⟩
 have := ho.mono hE.bsize
 simpa using this
theorem mac1 {b : Nat} {k v : List Nat} {n : Int} (w : World) (hk : KW w) (hd : DR w b k v n) {Av : Option Addr} {cv : Nat} (hv : w.cell? ⟨b, 1, none⟩ = some (.slice Av 32 cv)) :
 Calls Tryz.prog 71 #[.pointer (some ⟨b, 0, none⟩), .slice (some ⟨w.heap.size, 0, none⟩) 1 1] (w.alloc (.cells #[.slice Av 32 cv] 22))
  fun e w' => ∃ A' c', e = .returned (.slice A' 32 c') ∧ OW w' w.heap.size A' c' (hmac k v) ∧ Ext w w' := by
 have hE := Ext.alloc w (.cells #[.slice Av 32 cv] 22)
 have hr := RS.lit w #[.slice Av 32 cv] 22 (by simp [maxLen])
 obtain ⟨W2, hW2⟩ : ∃ W, w.alloc (.cells #[.slice Av 32 cv] 22) = W := ⟨_, rfl⟩
 rw [hW2] at hE hr ⊢
 obtain ⟨Ak, ck, Av', cv', h1, h2, h3, h4, h5⟩ := hd
 have e1 := blk_cell h1 1
 rw [hv] at e1
 simp only [List.getElem?_toArray, List.getElem?_cons_zero, List.getElem?_cons_succ, Option.some.injEq, Value.slice.injEq] at e1
 obtain ⟨rfl, _, rfl⟩ := e1
 have c0 : W2.cell? ⟨b, 0, none⟩ = some (.slice Ak 32 ck) := hE.cell (blk_cell h1 0)
 have o2 := h2.upE hE
 have o3 := h3.upE hE
 have hq : RP W2 (fun k => k < W2.heap.size) (some ⟨w.heap.size, 0, none⟩) 1 [v] := by
  refine ⟨_, hr, fun i hi => ?_⟩
  match i, hi with
  | 0, _ => exact ⟨Av, cv, by simp [h5], o3⟩
  | i + 1, hi => exact absurd hi (by simp only [List.length_cons, List.length_nil]; omega)
 rw [← h4] at c0
 have hm := mac_any W2 (hk.ext hE) c0 o2 (fun _ h => h) (by omega) (by omega) hq (fun _ h => h) (by simp [h5]) (by
  intro y hy
  simp only [List.flatten_cons, List.flatten_nil, List.append_nil] at hy
  exact o3.2.1 y hy)
 refine hm.mono ?_
 rintro e w' ⟨A', c', rfl, ho, hE'⟩
 refine ⟨A', c', rfl, ?_, hE.trans hE'⟩
 have := ho.mono hE.bsize
 simpa using this
end Go.Proofs.YtaemogcomplhiaaGreatDoor
