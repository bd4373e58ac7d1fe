/- SHA-256 as a function on lists: words are 32-bit vectors, bytes are numbers. No program is named here. Words for memory, used by all other texts of this seat: a slice that reads as a list; bytes; a list of attributes; append. Nothing here speaks of the program. Plain arithmetic of digits, the lowest first, to a base: nothing of the program. Plain arithmetic of the rounds of sums, differences and products: nothing of the program. The library contracts of math/bits at this program, as the shelf lays them. Words for memory that holds limbs: a slice that reads as limbs; a block that is known whole; a slice of one's own. What limb.trim, made, Of, Norm and the reference's trim compute. What limb.Cmp and the reference's compute: the order of two numbers. What limb.Sub computes. What limb.Mul computes. What the reference's From, Of, To and Is compute. What the reference's Is, and the laws' Cut and few, compute. Slices of one limb; slices in whatever block. Arguments opened: limbs and bytes that came in, as the walks want them. Plain arithmetic of bits and bytes of numbers: nothing of the program. -/
import Derived.WalkKit
import Derived.WalkSpells
import Derived.WalkLawsBesides
import Derived.Deep.Draws
import Derived.Deep.AppendLies
import Derived.Maps.AppendAt
import Derived.Lib.Hide
import Derived.Shelf.Small.Bits
import Derived.Shelf.Strconv.Itoa0
import Derived.Shelf.Bits.Mul64
import Derived.Test.YtlaphnlolgokiaaGreatDoorProg
import Derived.Shelf.Spec.BitsCarry
import Derived.Test.YtlaphnlolgokiaaGreatDoorRows
import Derived.Deep.OwnRows
import Derived.Deep.DeepCutAuto
import Derived.Deep.QuietTactic
import Derived.BigQuiet
import Derived.ProofKit
import Derived.OpenShut
import Derived.ShutString
import Derived.ChangeOld
import Derived.ChangeSame
import Derived.Deep.Slices
import Derived.SizedLaws
import Derived.Lib.SmallJoins
import Derived.Lib.BitFns
import Derived.Lib.ItoaNum
namespace Go.Proofs.YtlaphnlolgokiaaGreatDoor.Sha
abbrev W := BitVec 32
def rr (n : Nat) (x : W) : W := (x <<< (32 - n)) ||| (x >>> n)
def g0 (x : W) : W := rr 7 x ^^^ rr 18 x ^^^ (x >>> 3)
def g1 (x : W) : W := rr 17 x ^^^ rr 19 x ^^^ (x >>> 10)
def S1 (x : W) : W := rr 6 x ^^^ rr 11 x ^^^ rr 25 x
def S0 (x : W) : W := rr 2 x ^^^ rr 13 x ^^^ rr 22 x
def ch (x y z : W) : W := (x &&& y) ^^^ (~~~x &&& z)
def mj (x y z : W) : W := (x &&& y) ^^^ (x &&& z) ^^^ (y &&& z)
def wd (l : List W) (i : Nat) : W := l.getD i 0
def o (n : Nat) : W := BitVec.ofNat 32 n
def be (l : List Nat) (i : Nat) : W := (o (l.getD i 0) <<< 24) ||| (o (l.getD (i + 1) 0) <<< 16) ||| (o (l.getD (i + 2) 0) <<< 8) ||| o (l.getD (i + 3) 0)
def nxt (l : List W) : W := wd l (l.length - 16) + g0 (wd l (l.length - 15)) + wd l (l.length - 7) + g1 (wd l (l.length - 2))
def sch (p : List Nat) : Nat → List W
 | 0 => []
 | k + 1 => sch p k ++ [if k < 16 then be p (4 * k) else nxt (sch p k)]
def kk : List W := [
 0x428a2f98, 0x71374491, 0xb5c0fbcf, 0xe9b5dba5, 0x3956c25b, 0x59f111f1, 0x923f82a4, 0xab1c5ed5,
 0xd807aa98, 0x12835b01, 0x243185be, 0x550c7dc3, 0x72be5d74, 0x80deb1fe, 0x9bdc06a7, 0xc19bf174,
 0xe49b69c1, 0xefbe4786, 0x0fc19dc6, 0x240ca1cc, 0x2de92c6f, 0x4a7484aa, 0x5cb0a9dc, 0x76f988da,
 0x983e5152, 0xa831c66d, 0xb00327c8, 0xbf597fc7, 0xc6e00bf3, 0xd5a79147, 0x06ca6351, 0x14292967,
 0x27b70a85, 0x2e1b2138, 0x4d2c6dfc, 0x53380d13, 0x650a7354, 0x766a0abb, 0x81c2c92e, 0x92722c85,
 0xa2bfe8a1, 0xa81a664b, 0xc24b8b70, 0xc76c51a3, 0xd192e819, 0xd6990624, 0xf40e3585, 0x106aa070,
 0x19a4c116, 0x1e376c08, 0x2748774c, 0x34b0bcb5, 0x391c0cb3, 0x4ed8aa4a, 0x5b9cca4f, 0x682e6ff3,
 0x748f82ee, 0x78a5636f, 0x84c87814, 0x8cc70208, 0x90befffa, 0xa4506ceb, 0xbef9a3f7, 0xc67178f2]
structure St where
 (a b c d e f g h : W)
def rnd (s : St) (k w : W) : St :=
 let t := s.h + S1 s.e + ch s.e s.f s.g + k + w
 ⟨t + (S0 s.a + mj s.a s.b s.c), s.a, s.b, s.c, s.d + t, s.e, s.f, s.g⟩
def rnds (L : List W) (s : St) : Nat → St
 | 0 => s
 | k + 1 => rnd (rnds L s k) (wd kk k) (wd L k)
def St.add (s t : St) : St := ⟨s.a + t.a, s.b + t.b, s.c + t.c, s.d + t.d, s.e + t.e, s.f + t.f, s.g + t.g, s.h + t.h⟩
def comp (s : St) (p : List Nat) : St := s.add (rnds (sch p 64) s 64)
def taken (s : St) (m : List Nat) : Nat → St
 | 0 => s
 | k + 1 => comp (taken s m k) ((m.drop (64 * k)).take 64)
def s256 : St := ⟨0x6a09e667, 0xbb67ae85, 0x3c6ef372, 0xa54ff53a, 0x510e527f, 0x9b05688c, 0x1f83d9ab, 0x5be0cd19⟩
def byt (n : Nat) : List Nat := [n / 16777216 % 256, n / 65536 % 256, n / 256 % 256, n % 256]
def St.list (s : St) : List W := [s.a, s.b, s.c, s.d, s.e, s.f, s.g, s.h]
def St.out (s : St) : List Nat := s.list.flatMap fun x => byt x.toNat
def tail (n : Nat) : List Nat := [128] ++ List.replicate ((119 - n % 64) % 64) 0 ++ byt (n * 8 / 4294967296) ++ byt (n * 8 % 4294967296)
def pad (m : List Nat) : List Nat := m ++ tail m.length
def sha (m : List Nat) : List Nat := (taken s256 (pad m) ((pad m).length / 64)).out
def mask (k : List Nat) (c : Nat) : List Nat := (List.range 64).map fun i => k.getD i 0 ^^^ c
def hmac (k m : List Nat) : List Nat := sha (mask k 92 ++ sha (mask k 54 ++ m))

theorem sch_length (p : List Nat) : ∀ k, (sch p k).length = k
 | 0 => rfl
 | k + 1 => by simp [sch, sch_length p k]
theorem sch_get (p : List Nat) : ∀ (k j : Nat), j < k → wd (sch p k) j = if j < 16 then be p (4 * j) else nxt (sch p j)
  | 0, j, h => by omega
  | k + 1, j, h => by
    have hl := sch_length p k
    unfold wd
    rw [sch, List.getD_eq_getElem?_getD]
    rcases Nat.lt_or_ge j k with h1 | h1
    · rw [List.getElem?_append_left (by omega), ← List.getD_eq_getElem?_getD]; exact sch_get p k j h1
    · obtain rfl : j = k := by omega
      rw [List.getElem?_append_right (by omega), hl, Nat.sub_self]; rfl
theorem sch_same (p : List Nat) {k k' j : Nat} (h : j < k) (h' : j < k') : wd (sch p k) j = wd (sch p k') j := by rw [sch_get p k j h, sch_get p k' j h']
theorem sch_next (p : List Nat) {n j : Nat} (h16 : 16 ≤ j) (hn : j < n) :
 wd (sch p n) j = wd (sch p n) (j - 16) + g0 (wd (sch p n) (j - 15)) + wd (sch p n) (j - 7) + g1 (wd (sch p n) (j - 2)) := by
 rw [sch_get p n j hn, if_neg (by omega)]
 unfold nxt
 rw [sch_length]
 rw [sch_same p (show j - 16 < j by omega) (show j - 16 < n by omega), sch_same p (show j - 15 < j by omega) (show j - 15 < n by omega), sch_same p (show j - 7 < j by omega) (show j - 7 < n by omega), sch_same p (show j - 2 < j by omega) (show j - 2 < n by omega)]
theorem byt_length (n : Nat) : (byt n).length = 4 := rfl
theorem byt_lt (n : Nat) : ∀ x ∈ byt n, x < 256 := by
 intro x hx
 simp only [byt, List.mem_cons, List.not_mem_nil, or_false] at hx
 omega
theorem out_lt (s : St) : ∀ x ∈ s.out, x < 256 := by
 intro x hx
 obtain ⟨y, _, hy⟩ := List.mem_flatMap.1 hx
 exact byt_lt _ x hy
theorem sha_length (m : List Nat) : (sha m).length = 32 := rfl
theorem sha_lt (m : List Nat) : ∀ x ∈ sha m, x < 256 := out_lt _
theorem tail_length (n : Nat) : (tail n).length = 9 + (119 - n % 64) % 64 := by simp [tail, byt]; omega
theorem taken_congr (s : St) (m m' : List Nat) : ∀ k, (∀ j, j < k → (m.drop (64 * j)).take 64 = (m'.drop (64 * j)).take 64) → taken s m k = taken s m' k
  | 0, _ => rfl
  | k + 1, h => by
    rw [taken, taken, taken_congr s m m' k (fun j hj => h j (by omega)), h k (by omega)]
theorem taken_append (s : St) (m t : List Nat) (k : Nat) (hk : 64 * k ≤ m.length) : taken s (m ++ t) k = taken s m k :=
 taken_congr s _ _ k fun j hj => by
  rw [List.drop_append_of_le_length (by omega), List.take_append_of_le_length (by rw [List.length_drop]; omega)]
end Go.Proofs.YtlaphnlolgokiaaGreatDoor.Sha

namespace Go.Proofs.YtlaphnlolgokiaaGreatDoor
open Go.RowKit

theorem ret_int {k : IntKind} {a b : Int} (h : a = b) : Ending.returned (.int k a) = .returned (.int k b) := by rw [h]
theorem block_of_add (a : Addr) (n : Nat) : (a.add n).block = a.block := by unfold Addr.add; split <;> rfl
theorem add_of_add (a : Addr) (i j : Nat) : (a.add i).add j = a.add (i + j) := by
 unfold Addr.add
 by_cases hi : i = 0 <;> by_cases hj : j = 0 <;> simp [hi, hj, Nat.add_assoc]

def In (lo hi b : Nat) : Prop := lo ≤ b ∧ b < hi

def RS (w : World) (P : Nat → Prop) (size : Nat) (A : Option Addr) (n c : Nat) (cs : List Value) : Prop :=
  n ≤ c ∧ c ≤ maxLen ∧ cs.length = n * size ∧
    (0 < n → ∃ ad, A = some ad ∧ P ad.block ∧ ∀ j u, cs[j]? = some u → w.cell? (ad.add j) = some u)

section
variable {w w' : World} {P P' : Nat → Prop} {size n c : Nat} {A : Option Addr} {cs : List Value}

theorem RS.keep (h : RS w P size A n c cs) (hk : ∀ p : Addr, P p.block → w'.cell? p = w.cell? p) : RS w' P size A n c cs := by
 obtain ⟨h1, h2, h3, h4⟩ := h
 refine ⟨h1, h2, h3, fun hn => ?_⟩
 obtain ⟨ad, e, hb, hc⟩ := h4 hn
 exact ⟨ad, e, hb, fun j u hu => (hk _ (by rw [block_of_add]; exact hb)).trans (hc j u hu)⟩
theorem RS.mono (h : RS w P size A n c cs) (hp : ∀ b, P b → P' b) : RS w P' size A n c cs := by
 obtain ⟨h1, h2, h3, h4⟩ := h
 refine ⟨h1, h2, h3, fun hn => ?_⟩
 obtain ⟨ad, e, hb, hc⟩ := h4 hn
 exact ⟨ad, e, hp _ hb, hc⟩
theorem RS.below {B : Nat} (h : RS w P size A n c cs) (hb : Below B w w') (hB : ∀ b, P b → b < B) : RS w' P size A n c cs := h.keep fun _ hp => hb.cell (hB _ hp)
theorem RS.nil_ (w : World) (P : Nat → Prop) (size : Nat) : RS w P size none 0 0 [] := ⟨by omega, by unfold maxLen; omega, by simp, fun h => absurd h (by omega)⟩
theorem RS.of_own {base : Nat} {e : TypeId} (h : w.ownsRow base e size (.slice A n c) n cs) : RS w (In base w.heap.size) size A n c cs := by
 have hlt := h.lt
 have hcell := fun g => h.cells (g := g)
 obtain ⟨h0, ⟨e1, rfl⟩ | ⟨g, cap, cur, e1, hg, hh, h5, h6, h7, h8⟩⟩ := h
 · injection e1 with e1 e2 e3
   subst e1 e3
   exact ⟨by omega, by unfold maxLen; omega, h0, fun h => absurd h (by omega)⟩
 · injection e1 with e1 e2 e3
   subst e1 e3
   have := hlt g rfl
   exact ⟨h5, h6, h0, fun _ => ⟨_, rfl, ⟨hg, this.2⟩, hcell g rfl⟩⟩
theorem own_shape {base : Nat} {e : TypeId} {v : Value} (h : w.ownsRow base e size v n cs) : ∃ A c, v = .slice A n c := by
 obtain ⟨h0, ⟨rfl, rfl⟩ | ⟨g, cap, cur, rfl, hg, hh, h5, h6, h7, h8⟩⟩ := h
 · exact ⟨_, _, rfl⟩
 · exact ⟨_, _, rfl⟩
theorem own_kept {w w' : World} {base : Nat} {e : TypeId} {v : Value} (h : w.ownsRow base e size v n cs) (hg : w.grownBy w' none) : w'.ownsRow base e size v n cs :=
 h.kept hg (by cases v.ownBlock <;> simp)
theorem below_drewN {B : Nat} {a w : World} (h : Below B a w) (n : Nat) : Below B a (w.drewN n) := ⟨h.os, h.tape, h.output, h.size, h.block⟩
theorem blk_cell {w : World} {B : Nat} {cs : Array Value} {t : TypeId} (h : w.heap[B]? = some (.cells cs t (0, 0))) (i : Nat) : w.cell? ⟨B, i, none⟩ = cs[i]? := cell_of_row w B i cs t (0, 0) h
theorem blk_free {w : World} {B : Nat} {cs : Array Value} {t : TypeId} (h : w.heap[B]? = some (.cells cs t (0, 0))) (i : Nat) : w.frozen? ⟨B, i, none⟩ = false := by simp [World.frozen?, h]
theorem blk_lt {w : World} {B : Nat} {o : Obj} (h : w.heap[B]? = some o) : B < w.heap.size := (Array.getElem?_eq_some_iff.1 h).1
theorem RS.fresh {w : World} {P : Nat → Prop} (cs : Array Value) (t : TypeId) (size n : Nat) (h : cs.size = n * size) (hn : n ≤ maxLen) (hP : P w.heap.size) : RS (w.alloc (.cells cs t)) P size (some ⟨w.heap.size, 0, none⟩) n n cs.toList :=
 ⟨Nat.le_refl _, hn, by simpa using h, fun _ => ⟨_, rfl, hP, World.news_of_block (heap_alloc_new w _)⟩⟩
theorem RS.sub {c' k m : Nat} (h : RS w P size A n c cs) (hkm : k ≤ m) (hm : m ≤ n) (hc : m - k ≤ c') (hc' : c' ≤ maxLen) {A' : Option Addr} (hA : k < m → A' = A.map (·.add (k * size))) :
 RS w P size A' (m - k) c' ((cs.drop (k * size)).take ((m - k) * size)) := by
 obtain ⟨h1, h2, h3, h4⟩ := h
 refine ⟨hc, hc', ?_, fun hn => ?_⟩
 · rw [List.length_take, List.length_drop, h3, ← Nat.sub_mul]
   exact Nat.min_eq_left (Nat.mul_le_mul_right _ (by omega))
 · obtain ⟨ad, rfl, hb, hc⟩ := h4 (by omega)
   rw [hA (by omega)]
   refine ⟨ad.add (k * size), rfl, by rw [block_of_add]; exact hb, fun j u hu => ?_⟩
   rw [add_of_add]
   apply hc
   rw [List.getElem?_take] at hu
   split at hu
   · rw [← hu, List.getElem?_drop]
   · cases hu
theorem RS.pre {m : Nat} (h : RS w P size A n c cs) (hm : m ≤ n) : RS w P size A m c (cs.take (m * size)) := by
 have := h.1
 have := h.2.1
 have := h.sub (k := 0) (m := m) (c' := c) (A' := A) (by omega) hm (by omega) (by omega) (fun _ => by cases A <;> simp [Addr.add])
 simpa using this
end

def bys (bs : List Nat) : List Value := bs.map fun b : Nat => .int .u8 (b : Int)
def RB (w : World) (P : Nat → Prop) (A : Option Addr) (c : Nat) (bs : List Nat) : Prop := RS w P 1 A bs.length c (bys bs) ∧ (∀ b ∈ bs, b < 256) ∧ bs.length ≤ 140737488355328

def RA (w : World) (P : Nat → Prop) (A : Option Addr) (c : Nat) (l : List (Int × List Nat)) : Prop :=
 ∃ cs, RS w P 2 A l.length c cs ∧ ∀ j x, l[j]? = some x → cs[j * 2]? = some (.int .i64 x.1) ∧ ∃ A' c', cs[j * 2 + 1]? = some (.slice A' x.2.length c') ∧ RB w P A' c' x.2

section
variable {w w' : World} {P P' : Nat → Prop} {A : Option Addr} {c : Nat} {bs : List Nat} {l : List (Int × List Nat)}
theorem RB.keep (h : RB w P A c bs) (hk : ∀ p : Addr, P p.block → w'.cell? p = w.cell? p) : RB w' P A c bs := ⟨h.1.keep hk, h.2⟩
theorem RB.mono (h : RB w P A c bs) (hp : ∀ b, P b → P' b) : RB w P' A c bs := ⟨h.1.mono hp, h.2⟩
theorem RB.below {B : Nat} (h : RB w P A c bs) (hb : Below B w w') (hB : ∀ b, P b → b < B) : RB w' P A c bs := ⟨h.1.below hb hB, h.2⟩
theorem RB.cap (h : RB w P A c bs) : bs.length ≤ c ∧ c ≤ 9223372036854775807 ∧ bs.length ≤ 140737488355328 := ⟨h.1.1, h.1.2.1, h.2.2⟩
theorem RB.nil_ (w : World) (P : Nat → Prop) : RB w P none 0 [] := ⟨RS.nil_ _ _ _, by simp, by simp⟩
theorem RA.keep (h : RA w P A c l) (hk : ∀ p : Addr, P p.block → w'.cell? p = w.cell? p) : RA w' P A c l := by
 obtain ⟨cs, h1, h2⟩ := h
 exact ⟨cs, h1.keep hk, fun j x hx => by obtain ⟨h3, A', c', h4, h5⟩ := h2 j x hx; exact ⟨h3, A', c', h4, h5.keep hk⟩⟩
theorem RA.mono (h : RA w P A c l) (hp : ∀ b, P b → P' b) : RA w P' A c l := by
 obtain ⟨cs, h1, h2⟩ := h
 exact ⟨cs, h1.mono hp, fun j x hx => by obtain ⟨h3, A', c', h4, h5⟩ := h2 j x hx; exact ⟨h3, A', c', h4, h5.mono hp⟩⟩
theorem RA.below {B : Nat} (h : RA w P A c l) (hb : Below B w w') (hB : ∀ b, P b → b < B) : RA w' P A c l := h.keep fun _ hp => hb.cell (hB _ hp)
theorem RA.cap (h : RA w P A c l) : l.length ≤ c ∧ c ≤ 9223372036854775807 := by obtain ⟨cs, h1, h2⟩ := h; exact ⟨h1.1, h1.2.1⟩
theorem RA.nil_ (w : World) (P : Nat → Prop) : RA w P none 0 [] := ⟨[], RS.nil_ _ _ _, by simp⟩
theorem RA.at_ (h : RA w P A c l) {i : Nat} (hi' : i < l.length) :
 ∃ ad A' c', A = some ad ∧ P ad.block ∧ w.cell? (ad.add (i * 2)) = some (.int .i64 (l[i]).1) ∧ w.cell? ⟨(ad.add (i * 2)).block, (ad.add (i * 2)).off + 1, none⟩ = some (.slice A' (l[i]).2.length c') ∧ RB w P A' c' (l[i]).2 := by
 obtain ⟨cs, ⟨h1, h2, h3, h4⟩, h5⟩ := h
 obtain ⟨ad, rfl, hb, hc⟩ := h4 (by omega)
 obtain ⟨h6, A', c', h7, h8⟩ := h5 i _ (List.getElem?_eq_getElem hi')
 exact ⟨ad, A', c', rfl, hb, hc _ _ h6, by have := hc _ _ h7; rwa [← add_of_add] at this, h8⟩
theorem RB.at_ (h : RB w P A c bs) {i : Nat} (hi' : i < bs.length) : ∃ ad, A = some ad ∧ P ad.block ∧ w.cell? (ad.add i) = some (.int .u8 (bs[i] : Int)) ∧ (bs[i] : Int) < 256 := by
 obtain ⟨⟨h1, h2, h3, h4⟩, h5, _⟩ := h
 obtain ⟨ad, rfl, hb, hc⟩ := h4 (by omega)
 exact ⟨ad, rfl, hb, hc _ _ (by simp [bys, List.getElem?_eq_getElem hi']), by have := h5 _ (List.getElem_mem hi'); omega⟩
end

section
variable {P : Program} (w : World)
theorem run_append_of_nil (base : Nat) (t ty e : TypeId) (i : TypeInfo) (size : Nat) (ht : P.underlying t = some (.slice e)) (hi : P.info? e = some i)
 (v : Value) (n : Nat) (xs : List Value) (hown : w.ownsRow base e size v n xs) (c : Nat) : (Builtin.append_ #[t, t] ty #[v, .slice none 0 c]).run P w = .ok v w := by
 rcases hown.2 with ⟨rfl, rfl⟩ | ⟨g, cap, cur, rfl, _, _, hnc, _⟩
 · simp [Builtin.append_, run_underlying ht, sizeOf, typeInfo, hi, Builtin.lenOf, Builtin.firstCells]
 · simp [Builtin.append_, run_underlying ht, sizeOf, typeInfo, hi, Builtin.lenOf, Builtin.firstCells, hnc, storeCells]

theorem run_append_rs (base : Nat) (t ty e : TypeId) (i : TypeInfo) (z : Value) (size bytes : Nat) (ht : P.underlying t = some (.slice e)) (hi : P.info? e = some i) (hz : i.zero = some z)
    (hsize : i.size = size) (hby : i.bytes = bytes) (hzs : z.cells.size = size) (hsz : 0 < size)
    (v : Value) (n : Nat) (xs : List Value) (hown : w.ownsRow base e size v n xs)
    (Q : Nat → Prop) (A : Option Addr) (m c : Nat) (news : List Value) (hr : RS w Q size A m c news) (h1 : ∀ u ∈ news, u.oneCell' = true)
    (h63 : n + m ≤ maxLen) (hbytes : (n + m) * bytes ≤ 140737488355328) (hbase : base ≤ w.heap.size) :
    ∃ A' c' w', (Builtin.append_ #[t, t] ty #[v, .slice A m c]).run P w = .ok (.slice A' (n + m) c') w' ∧ w'.ownsRow base e size (.slice A' (n + m) c') (n + m) (xs ++ news) ∧ w.grownBy w' v.ownBlock ∧
      ((Value.slice A' (n + m) c').ownBlock = v.ownBlock ∨ (Value.slice A' (n + m) c').ownBlock = some w.heap.size) := by
  rcases A with _ | ad
  · have hm : m = 0 := by
      rcases Nat.eq_zero_or_pos m with h0 | h0
      · exact h0
      · obtain ⟨ad, h, _⟩ := hr.2.2.2 h0
        cases h
    subst hm
    have hn : news = [] := List.eq_nil_of_length_eq_zero (by simpa using hr.2.2.1)
    subst hn
    obtain ⟨A', c', rfl⟩ := own_shape hown
    exact ⟨A', c', w, run_append_of_nil w base t ty e i size ht hi _ n xs hown c, by simpa using hown, World.grownBy.refl w _, .inl rfl⟩
  · have hcells : ∀ j u, news[j]? = some u → w.cell? (ad.add j) = some u := by
      intro j u hu
      rcases Nat.eq_zero_or_pos m with h0 | h0
      · subst h0
        have hn : news = [] := List.eq_nil_of_length_eq_zero (by simpa using hr.2.2.1)
        subst hn
        simp at hu
      · obtain ⟨ad', h, _, hc⟩ := hr.2.2.2 h0
        injection h with h
        subst h
        exact hc j u hu
    obtain ⟨v', w', hrun, h2, h3, _, h5⟩ := run_append_own_at (P := P) w base t ty e i z size bytes ht hi hz hsize hby hzs hsz v n xs hown ad m c news hr.2.2.1 hcells h1 h63 hbytes hbase
    obtain ⟨A', c', rfl⟩ := own_shape h2
    exact ⟨A', c', w', hrun, h2, h3, h5⟩

theorem wp_append_rs {o : Oper} {a : Act} {K : Act → World → Prop} {Q : Exit → Act → World → Prop} (s x : Operand) (t : TypeId)
 (ho : o.op = .call { callee := .builtin .append, args := #[s, x], argTypes := #[t, t] })
 (base : Nat) (e : TypeId) (i : TypeInfo) (z : Value) (size bytes : Nat) (ht : P.underlying t = some (.slice e)) (hi : P.info? e = some i) (hz : i.zero = some z)
 (hsize : i.size = size) (hby : i.bytes = bytes) (hzs : z.cells.size = size) (hsz : 0 < size)
 (v : Value) (n : Nat) (xs : List Value) (hs : a.eval s = v) (hown : w.ownsRow base e size v n xs)
 (B : Nat → Prop) (A : Option Addr) (m c : Nat) (news : List Value) (hx : a.eval x = .slice A m c) (hr : RS w B size A m c news) (h1 : ∀ u ∈ news, u.oneCell' = true)
 (k : Nat) (hk : n + m = k) (h63 : n + m ≤ maxLen) (hbytes : (n + m) * bytes ≤ 140737488355328) (hbase : base ≤ w.heap.size)
 (h : ∀ A' c' w', w'.ownsRow base e size (.slice A' k c') k (xs ++ news) → w.grownBy w' v.ownBlock → ((Value.slice A' k c').ownBlock = v.ownBlock ∨ (Value.slice A' k c').ownBlock = some w.heap.size) → K (a.put o.dst (.slice A' k c')) w') : o.wp P a w K Q := by
 subst hk
 obtain ⟨A', c', w', hrun, h2, h3, h4⟩ := run_append_rs (P := P) w base t o.type e i z size bytes ht hi hz hsize hby hzs hsz v n xs hown B A m c news hr h1 h63 hbytes hbase
 unfold Oper.wp execOp
 simp only [ho, resolve, invoke, builtin, Sem.run_bind, Sem.run_pure, Result.andThen_ok, List.map_toArray, List.map_cons, List.map_nil, hs, hx, hrun]
 exact h A' c' w' h2 h3 h4

theorem wpList_append_rs {ops : Array Oper} {rest : List Oper} {o : Oper} {a : Act} {Q : Exit → Act → World → Prop} (hgd : o.guard = none) (s x : Operand) (t : TypeId)
 (ho : o.op = .call { callee := .builtin .append, args := #[s, x], argTypes := #[t, t] })
 (base : Nat) (e : TypeId) (i : TypeInfo) (z : Value) (size bytes : Nat) (ht : P.underlying t = some (.slice e)) (hi : P.info? e = some i) (hz : i.zero = some z)
 (hsize : i.size = size) (hby : i.bytes = bytes) (hzs : z.cells.size = size) (hsz : 0 < size)
 (v : Value) (n : Nat) (xs : List Value) (hs : a.eval s = v) (hown : w.ownsRow base e size v n xs)
 (B : Nat → Prop) (A : Option Addr) (m c : Nat) (news : List Value) (hx : a.eval x = .slice A m c) (hr : RS w B size A m c news) (h1 : ∀ u ∈ news, u.oneCell' = true)
 (k : Nat) (hk : n + m = k) (h63 : n + m ≤ maxLen) (hbytes : (n + m) * bytes ≤ 140737488355328) (hbase : base ≤ w.heap.size)
 (h : ∀ A' c' w', w'.ownsRow base e size (.slice A' k c') k (xs ++ news) → w.grownBy w' v.ownBlock → ((Value.slice A' k c').ownBlock = v.ownBlock ∨ (Value.slice A' k c').ownBlock = some w.heap.size) → wpList P ops Q rest (a.put o.dst (.slice A' k c')) w') : wpList P ops Q (o :: rest) a w :=
 wpList_plain hgd fun _ hK => wp_append_rs w s x t ho base e i z size bytes ht hi hz hsize hby hzs hsz v n xs hs hown B A m c news hx hr h1 k hk h63 hbytes hbase fun A' c' w' h2 h3 h4 => hK _ _ (h A' c' w' h2 h3 h4)

end
end Go.Proofs.YtlaphnlolgokiaaGreatDoor

namespace Go.Proofs.YtlaphnlolgokiaaGreatDoor

def val (B : Nat) : List Nat → Nat
 | [] => 0
 | x :: l => x + B * val B l
def digs (B : Nat) (n : Nat) : List Nat := if _h : 2 ≤ B ∧ 0 < n then n % B :: digs B (n / B) else []
termination_by n
decreasing_by exact Nat.div_lt_self _h.2 _h.1

@[simp] theorem val_nil (B : Nat) : val B [] = 0 := rfl
@[simp] theorem val_cons (B x : Nat) (l : List Nat) : val B (x :: l) = x + B * val B l := rfl
theorem digs_zero (B : Nat) : digs B 0 = [] := by rw [digs]; simp
theorem digs_pos {B n : Nat} (hB : 2 ≤ B) (hn : 0 < n) : digs B n = n % B :: digs B (n / B) := by rw [digs]; simp [hB, hn]
theorem val_digs {B : Nat} (hB : 2 ≤ B) (n : Nat) : val B (digs B n) = n := by
  induction n using Nat.strongRecOn with
  | ind n ih =>
    rcases Nat.eq_zero_or_pos n with h | h
    · subst h; rw [digs_zero]; rfl
    · rw [digs_pos hB h, val_cons, ih _ (Nat.div_lt_self h hB)]
      exact Nat.mod_add_div n B
theorem digs_lt {B : Nat} (hB : 2 ≤ B) (n : Nat) : ∀ x ∈ digs B n, x < B := by
  induction n using Nat.strongRecOn with
  | ind n ih =>
    rcases Nat.eq_zero_or_pos n with h | h
    · subst h; rw [digs_zero]; simp
    · rw [digs_pos hB h]
      intro x hx
      rcases List.mem_cons.1 hx with rfl | hx
      · exact Nat.mod_lt _ (by omega)
      · exact ih _ (Nat.div_lt_self h hB) x hx
theorem val_append (B : Nat) (l m : List Nat) : val B (l ++ m) = val B l + B ^ l.length * val B m := by
 induction l with
 | nil => simp
 | cons x l ih => simp [ih, Nat.pow_succ, Nat.mul_add, Nat.mul_assoc, Nat.mul_comm, Nat.add_assoc]
theorem val_lt {B : Nat} {l : List Nat} (h : ∀ x ∈ l, x < B) : val B l < B ^ l.length := by
  induction l with
  | nil => simp
  | cons x l ih =>
    have h1 := h x (by simp)
    have h2 := ih fun y hy => h y (by simp [hy])
    simp only [val_cons, List.length_cons, Nat.pow_succ]
    have : B * (val B l + 1) ≤ B * B ^ l.length := Nat.mul_le_mul_left _ h2
    rw [Nat.mul_add] at this
    rw [Nat.mul_comm (B ^ l.length)]
    omega
theorem val_zeros {B : Nat} {l : List Nat} (h : ∀ x ∈ l, x = 0) : val B l = 0 := by
 induction l with
 | nil => rfl
 | cons x l ih => rw [val_cons, h x (by simp), ih fun y hy => h y (by simp [hy])]; simp
theorem val_replicate (B n : Nat) : val B (List.replicate n 0) = 0 := val_zeros (by simp)
theorem val_take_drop (B : Nat) (l : List Nat) {n : Nat} (hn : n ≤ l.length) : val B l = val B (l.take n) + B ^ n * val B (l.drop n) := by
 have := val_append B (l.take n) (l.drop n)
 rwa [List.take_append_drop, List.length_take, Nat.min_eq_left hn] at this
theorem val_take_succ (B : Nat) {l : List Nat} {n : Nat} (hn : n < l.length) : val B (l.take (n + 1)) = val B (l.take n) + B ^ n * l[n] := by
 rw [List.take_succ_eq_append_getElem hn, val_append, List.length_take, Nat.min_eq_left (by omega)]
 simp
theorem val_set (B : Nat) {l : List Nat} {n : Nat} (hn : n < l.length) (x : Nat) : val B (l.set n x) + B ^ n * l[n] = val B l + B ^ n * x := by
 have h1 := val_take_drop B l (Nat.le_of_lt hn)
 have h2 := val_take_drop B (l.set n x) (n := n) (by simp; omega)
 have h3 : l.drop n = l[n] :: l.drop (n + 1) := List.drop_eq_getElem_cons hn
 have h4 : (l.set n x).drop n = x :: l.drop (n + 1) := by
  rw [List.drop_set, if_neg (Nat.lt_irrefl _), h3, Nat.sub_self, List.set_cons_zero]
 have h5 : (l.set n x).take n = l.take n := by rw [List.take_set]; apply List.set_eq_of_length_le; simp; omega
 rw [h4, h5, val_cons] at h2
 rw [h3, val_cons] at h1
 rw [h1, h2]
 simp only [Nat.mul_add]
 omega
theorem digs_val {B : Nat} (hB : 2 ≤ B) : ∀ {l : List Nat}, (∀ x ∈ l, x < B) → (∀ h : l ≠ [], l.getLast h ≠ 0) → digs B (val B l) = l
  | [], _, _ => digs_zero B
  | x :: l, h, hl => by
    have hx := h x (by simp)
    have hpos : 0 < val B (x :: l) := by
      rcases Nat.eq_zero_or_pos (val B (x :: l)) with h0 | h0
      · exfalso
        have hz : ∀ (m : List Nat) (hm : m ≠ []), val B m = 0 → m.getLast hm = 0 := by
          intro m
          induction m with
          | nil => intro hm; exact absurd rfl hm
          | cons y m ih =>
            intro hm hv
            rw [val_cons] at hv
            have hy : y = 0 := by omega
            have hB0 : B * val B m = 0 := by omega
            rcases Nat.mul_eq_zero.1 hB0 with h' | h'
            · omega
            · rcases m with _ | ⟨z, m⟩
              · simpa using hy
              · rw [List.getLast_cons (by simp)]; exact ih (by simp) h'
        exact hl (by simp) (hz _ _ h0)
      · exact h0
    rw [digs_pos hB hpos]
    have e1 : val B (x :: l) % B = x := by rw [val_cons, Nat.add_mul_mod_self_left, Nat.mod_eq_of_lt hx]
    have e2 : val B (x :: l) / B = val B l := by rw [val_cons, Nat.add_mul_div_left _ _ (by omega), Nat.div_eq_of_lt hx]; omega
    rw [e1, e2, digs_val hB (fun y hy => h y (by simp [hy])) fun hne => by
      have := hl (by simp)
      rwa [List.getLast_cons hne] at this]
theorem digs_last {B : Nat} (hB : 2 ≤ B) (n : Nat) (h : digs B n ≠ []) : (digs B n).getLast h ≠ 0 := by
  induction n using Nat.strongRecOn with
  | ind n ih =>
    rcases Nat.eq_zero_or_pos n with h0 | h0
    · subst h0; exact absurd (digs_zero B) h
    · rcases Nat.eq_zero_or_pos (n / B) with h1 | h1
      · have e : digs B n = [n % B] := by rw [digs_pos hB h0, h1, digs_zero]
        have hlt : n < B := by rcases Nat.lt_or_ge n B with h | h; exact h; have := Nat.div_pos h (by omega); omega
        simp only [e, List.getLast_singleton]
        rw [Nat.mod_eq_of_lt hlt]; omega
      · have e := digs_pos hB h0
        have hne : digs B (n / B) ≠ [] := by rw [digs_pos hB h1]; simp
        simp only [e, List.getLast_cons hne]
        exact ih _ (Nat.div_lt_self h0 hB) hne
theorem digs_nil {B : Nat} (hB : 2 ≤ B) {n : Nat} : digs B n = [] ↔ n = 0 :=
 ⟨fun h => by have := val_digs hB n; rw [h] at this; simpa using this.symm, fun h => by rw [h, digs_zero]⟩
theorem take_digs {B : Nat} (hB : 2 ≤ B) {l : List Nat} (hl : ∀ x ∈ l, x < B) {n : Nat} (hn : n ≤ l.length) (hz : ∀ x ∈ l.drop n, x = 0) (h0 : 0 < n → l.getD (n - 1) 0 ≠ 0) : l.take n = digs B (val B l) := by
 have e : val B l = val B (l.take n) := by rw [val_take_drop B l hn, val_zeros hz]; simp
 rw [e]
 refine (digs_val hB (fun x hx => hl x (List.mem_of_mem_take hx)) fun hne => ?_).symm
 have hn0 : 0 < n := by
  rcases Nat.eq_zero_or_pos n with h | h
  · subst h; simp at hne
  · exact h
 have := h0 hn0
 rw [List.getLast_eq_getElem, List.getElem_take]
 simp only [List.length_take, Nat.min_eq_left hn]
 rwa [List.getD_eq_getElem?_getD, List.getElem?_eq_getElem (by omega), Option.getD_some] at this
theorem digs_length_le {B : Nat} (hB : 2 ≤ B) {l : List Nat} (hl : ∀ x ∈ l, x < B) : (digs B (val B l)).length ≤ l.length := by
  rcases Nat.lt_or_ge l.length (digs B (val B l)).length with h | h
  · exfalso
    have h1 := val_lt hl
    have hne : digs B (val B l) ≠ [] := by intro e; rw [e] at h; simp at h
    have h2 : B ^ ((digs B (val B l)).length - 1) ≤ val B l := by
      generalize val B l = v at hne ⊢
      have := digs_last hB v hne
      have h3 := val_digs hB v
      obtain ⟨m, x, hm⟩ : ∃ m x, digs B v = m ++ [x] := ⟨_, _, (List.dropLast_concat_getLast hne).symm⟩
      have hx : x ≠ 0 := by have h4 : (digs B v).getLast hne = x := by simp [hm]
                            rw [h4] at this; exact this
      rw [hm, val_append] at h3
      rw [hm]
      simp at h3 ⊢
      rw [← h3]
      have : B ^ m.length * 1 ≤ B ^ m.length * x := Nat.mul_le_mul_left _ (by omega)
      omega
    have h3 : B ^ l.length ≤ B ^ ((digs B (val B l)).length - 1) := Nat.pow_le_pow_right (by omega) (by omega)
    omega
  · exact h
theorem pow_digs_le {B : Nat} (hB : 2 ≤ B) {v : Nat} (hv : 0 < v) : B ^ ((digs B v).length - 1) ≤ v := by
 have hne : digs B v ≠ [] := by rw [digs_pos hB hv]; simp
 have := digs_last hB v hne
 have h3 := val_digs hB v
 obtain ⟨m, x, hm⟩ : ∃ m x, digs B v = m ++ [x] := ⟨_, _, (List.dropLast_concat_getLast hne).symm⟩
 have hx : x ≠ 0 := by
  have h4 : (digs B v).getLast hne = x := by simp [hm]
  rw [h4] at this; exact this
 rw [hm, val_append] at h3
 rw [hm]
 simp at h3 ⊢
 rw [← h3]
 have : B ^ m.length * 1 ≤ B ^ m.length * x := Nat.mul_le_mul_left _ (by omega)
 omega
theorem lt_pow_digs {B : Nat} (hB : 2 ≤ B) (v : Nat) : v < B ^ (digs B v).length := by
 have := val_lt (digs_lt hB v)
 rwa [val_digs hB] at this
theorem digs_length_of_lt {B : Nat} (hB : 2 ≤ B) {v n : Nat} (h : v < B ^ n) : (digs B v).length ≤ n := by
 rcases Nat.eq_zero_or_pos v with h0 | h0
 · subst h0; rw [digs_zero]; simp
 · have h1 := pow_digs_le hB h0
   rcases Nat.lt_or_ge n (digs B v).length with h2 | h2
   · have : B ^ n ≤ B ^ ((digs B v).length - 1) := Nat.pow_le_pow_right (by omega) (by omega)
     omega
   · exact h2
theorem digs_length_mono {B : Nat} (hB : 2 ≤ B) {m n : Nat} (h : m ≤ n) : (digs B m).length ≤ (digs B n).length :=
 digs_length_of_lt hB (Nat.lt_of_le_of_lt h (lt_pow_digs hB n))
theorem lt_of_digs_length {B : Nat} (hB : 2 ≤ B) {m n : Nat} (h : (digs B m).length < (digs B n).length) : m < n := by
 rcases Nat.lt_or_ge m n with h1 | h1
 · exact h1
 · have := digs_length_mono hB h1; omega
theorem val_lt_of {B : Nat} {l m : List Nat} (hl : ∀ x ∈ l, x < B) (hlen : l.length = m.length) {i : Nat} (hi : i < l.length) (hd : l.drop (i + 1) = m.drop (i + 1)) (h : l[i] < m[i]'(by omega)) : val B l < val B m := by
 have h1 := val_take_drop B l (n := i + 1) (by omega)
 have h2 := val_take_drop B m (n := i + 1) (by omega)
 rw [val_take_succ B hi] at h1
 rw [val_take_succ B (by omega)] at h2
 have h3 : val B (l.take i) < B ^ i := by
  have := val_lt (B := B) (l := l.take i) fun x hx => hl x (List.mem_of_mem_take hx)
  rwa [List.length_take, Nat.min_eq_left (by omega)] at this
 have h4 : B ^ i * (l[i] + 1) ≤ B ^ i * m[i]'(by omega) := Nat.mul_le_mul_left _ h
 rw [Nat.mul_add] at h4
 rw [hd] at h1
 omega
end Go.Proofs.YtlaphnlolgokiaaGreatDoor

namespace Go.Proofs.YtlaphnlolgokiaaGreatDoor

def dg (l : List Nat) (i : Nat) : Nat := l.getD i 0

theorem getD_eq' {l : List Nat} {i : Nat} (h : i < l.length) : l.getD i 0 = l[i] := by
 rw [List.getD_eq_getElem?_getD, List.getElem?_eq_getElem h, Option.getD_some]
theorem val_take_getD (B : Nat) (l : List Nat) (k : Nat) : val B (l.take (k + 1)) = val B (l.take k) + B ^ k * dg l k := by
 rcases Nat.lt_or_ge k l.length with h | h
 · rw [val_take_succ B h, dg, List.getD_eq_getElem?_getD, List.getElem?_eq_getElem h, Option.getD_some]
 · rw [List.take_of_length_le (by omega), List.take_of_length_le h, dg, List.getD_eq_getElem?_getD, List.getElem?_eq_none h]
   simp
theorem val_take_set (B : Nat) {o : List Nat} {k : Nat} (h : k < o.length) (s : Nat) : val B ((o.set k s).take (k + 1)) = val B (o.take k) + B ^ k * s := by
 rw [val_take_getD, List.take_set, List.set_eq_of_length_le (by simp; omega), dg, List.getD_eq_getElem?_getD, List.getElem?_set_self h, Option.getD_some]
def AddAt (B : Nat) (a b o : List Nat) (k c : Nat) : Prop := val B (o.take k) + B ^ k * c = val B (a.take k) + val B (b.take k)
theorem AddAt.zero (B : Nat) (a b o : List Nat) : AddAt B a b o 0 0 := by simp [AddAt]
theorem AddAt.step {B : Nat} {a b o : List Nat} {k c s c' : Nat} (h : AddAt B a b o k c) (hk : k < o.length) (he : s + B * c' = dg a k + dg b k + c) : AddAt B a b (o.set k s) (k + 1) c' := by
 unfold AddAt at *
 rw [val_take_set B hk, val_take_getD, val_take_getD, Nat.pow_succ]
 have : B ^ k * (s + B * c') = B ^ k * (dg a k + dg b k + c) := by rw [he]
 simp only [Nat.mul_add, ← Nat.mul_assoc] at this
 omega
theorem AddAt.fin {B : Nat} {a b o : List Nat} {k c : Nat} (h : AddAt B a b o k c) (hk : o.length = k + 1) (ha : a.length ≤ k) (hb : b.length ≤ k) : val B (o.set k c) = val B a + val B b := by
 unfold AddAt at h
 rw [List.take_of_length_le ha, List.take_of_length_le hb] at h
 have := val_take_set B (o := o) (k := k) (by omega) c
 rw [List.take_of_length_le (by simp; omega)] at this
 rw [this, h]
def SubAt (B : Nat) (a b o : List Nat) (k c : Nat) : Prop := val B (o.take k) + val B (b.take k) = val B (a.take k) + B ^ k * c
theorem SubAt.zero (B : Nat) (a b o : List Nat) : SubAt B a b o 0 0 := by simp [SubAt]
theorem SubAt.step {B : Nat} {a b o : List Nat} {k c s c' : Nat} (h : SubAt B a b o k c) (hk : k < o.length) (he : s + dg b k + c = dg a k + B * c') : SubAt B a b (o.set k s) (k + 1) c' := by
 unfold SubAt at *
 rw [val_take_set B hk, val_take_getD, val_take_getD, Nat.pow_succ]
 have : B ^ k * (s + dg b k + c) = B ^ k * (dg a k + B * c') := by rw [he]
 simp only [Nat.mul_add, ← Nat.mul_assoc] at this
 omega
theorem SubAt.fin {B : Nat} {a b o : List Nat} {k c : Nat} (h : SubAt B a b o k c) (hk : o.length = k) (ho : ∀ x ∈ o, x < B) (ha : a.length = k) (hb : b.length ≤ k) (hle : val B b ≤ val B a) : val B o = val B a - val B b := by
 unfold SubAt at h
 rw [List.take_of_length_le (by omega), List.take_of_length_le hb, List.take_of_length_le (by omega)] at h
 have h1 := val_lt ho
 rw [hk] at h1
 rcases Nat.eq_zero_or_pos c with h0 | h0
 · subst h0; omega
 · have : B ^ k * 1 ≤ B ^ k * c := Nat.mul_le_mul_left _ h0
   omega
def MulAt (B : Nat) (o0 b : List Nat) (x i : Nat) (o : List Nat) (j c : Nat) : Prop :=
 o.length = o0.length ∧ val B o + B ^ (i + j) * c = val B o0 + B ^ i * (x * val B (b.take j)) ∧ (∀ n, i + j ≤ n → dg o n = dg o0 n)
theorem MulAt.zero (B : Nat) (o0 b : List Nat) (x i : Nat) : MulAt B o0 b x i o0 0 0 := by simp [MulAt]
theorem getD_set_ne {l : List Nat} {i j x : Nat} (h : i ≠ j) : dg (l.set i x) j = dg l j := by
 simp [dg, List.getD_eq_getElem?_getD, List.getElem?_set_ne h]
theorem getD_set_eq {l : List Nat} {i x : Nat} (h : i < l.length) : dg (l.set i x) i = x := by
 simp [dg, List.getD_eq_getElem?_getD, List.getElem?_set_self h]
theorem getD_eq {l : List Nat} {i : Nat} (h : i < l.length) : dg l i = l[i] := by
 rw [dg, List.getD_eq_getElem?_getD, List.getElem?_eq_getElem h, Option.getD_some]
theorem val_set' (B : Nat) {l : List Nat} {n : Nat} (hn : n < l.length) (x : Nat) : val B (l.set n x) + B ^ n * dg l n = val B l + B ^ n * x := by
 rw [getD_eq hn]; exact val_set B hn x
theorem MulAt.step {B : Nat} {o0 b o : List Nat} {x i j c s c' : Nat} (h : MulAt B o0 b x i o j c) (hk : i + j < o.length) (he : s + B * c' = x * dg b j + dg o (i + j) + c) :
 MulAt B o0 b x i (o.set (i + j) s) (j + 1) c' := by
 obtain ⟨h1, h2, h3⟩ := h
 refine ⟨by simpa using h1, ?_, fun n hn => by rw [getD_set_ne (by omega), h3 n (by omega)]⟩
 have hs := val_set' B hk s
 rw [val_take_getD, ← Nat.add_assoc, Nat.pow_succ]
 have e1 : B ^ (i + j) * (s + B * c') = B ^ (i + j) * (x * dg b j + dg o (i + j) + c) := by rw [he]
 simp only [Nat.mul_add, ← Nat.mul_assoc] at e1 ⊢
 have e2 : B ^ i * x * B ^ j * dg b j = B ^ (i + j) * x * dg b j := by
  rw [Nat.pow_add]; simp only [Nat.mul_comm, Nat.mul_assoc]
 simp only [← Nat.mul_assoc] at h2
 omega
theorem MulAt.fin {B : Nat} {o0 b o : List Nat} {x i n c : Nat} (h : MulAt B o0 b x i o n c) (hn : b.length = n) (hk : i + n < o.length) (h0 : dg o0 (i + n) = 0) : val B (o.set (i + n) c) = val B o0 + B ^ i * (x * val B b) := by
 obtain ⟨h1, h2, h3⟩ := h
 have hs := val_set' B hk c
 rw [h3 _ (Nat.le_refl _), h0] at hs
 rw [List.take_of_length_le (by omega)] at h2
 omega
def RowAt (B : Nat) (a b o : List Nat) (i : Nat) : Prop := o.length = a.length + b.length ∧ val B o = val B (a.take i) * val B b ∧ ∀ n, i + b.length ≤ n → dg o n = 0
theorem RowAt.zero (B : Nat) (a b : List Nat) : RowAt B a b (List.replicate (a.length + b.length) 0) 0 := by
 refine ⟨by simp, by simp [val_replicate], fun n _ => ?_⟩
 rw [dg, List.getD_eq_getElem?_getD, List.getElem?_replicate]
 split <;> rfl
theorem RowAt.step {B : Nat} {a b o0 o : List Nat} {i c : Nat} (h : RowAt B a b o0 i) (hi : i < a.length) (hm : MulAt B o0 b (dg a i) i o b.length c) : RowAt B a b (o.set (i + b.length) c) (i + 1) := by
 obtain ⟨h1, h2, h3⟩ := h
 have hl := hm.1
 refine ⟨by simpa [hl] using h1, ?_, fun n hn => ?_⟩
 · rw [hm.fin rfl (by omega) (h3 _ (Nat.le_refl _)), h2, val_take_getD, Nat.add_mul, Nat.mul_assoc]
 · rw [getD_set_ne (by omega), hm.2.2 n (by omega), h3 n (by omega)]
theorem RowAt.fin {B : Nat} {a b o : List Nat} (h : RowAt B a b o a.length) : val B o = val B a * val B b := by
 have := h.2.1
 rwa [List.take_length] at this
theorem set_lt {B : Nat} {o : List Nat} (h : ∀ x ∈ o, x < B) {k s : Nat} (hs : s < B) : ∀ x ∈ o.set k s, x < B := by
 intro x hx
 rcases List.mem_or_eq_of_mem_set hx with hx | rfl
 · exact h x hx
 · exact hs
theorem mul_bound {B x y u c : Nat} (hx : x < B) (hy : y < B) (hu : u < B) (hc : c < B) : x * y + u + c < B * B := by
 obtain ⟨n, rfl⟩ : ∃ n, B = n + 1 := ⟨B - 1, by omega⟩
 have : x * y ≤ n * n := Nat.mul_le_mul (by omega) (by omega)
 simp only [Nat.add_mul, Nat.mul_add, Nat.mul_one, Nat.one_mul]
 omega
theorem getD_lt {B : Nat} (hB : 0 < B) {l : List Nat} (h : ∀ x ∈ l, x < B) (i : Nat) : dg l i < B := by
 rcases Nat.lt_or_ge i l.length with hi | hi
 · rw [getD_eq hi]; exact h _ (List.getElem_mem hi)
 · rw [dg, List.getD_eq_getElem?_getD, List.getElem?_eq_none hi]; exact hB
end Go.Proofs.YtlaphnlolgokiaaGreatDoor

namespace Go.Proofs
open Go.Shelf
def Tryz.lays134_ren : Go.Shelf.Ren := ⟨fun | 134 => 73 | 129 => 41 | n => n, fun | 53 => 34 | 3 => 3 | 4 => 4 | 46 => 46 | 5 => 5 | 9 => 9 | n => n, fun | n => n⟩
theorem Tryz.lays134 : Go.Proofs.Lays.n134 Tryz.prog Tryz.lays134_ren := {
 mixed := by kernel_rfl
 f129 := Tryz.func41.trans (congrArg some (by kernel_rfl))
 f134 := Tryz.func73.trans (congrArg some (by kernel_rfl))
 t3 := Tryz.underlying3
 a3 := Tryz.isAgg3
 z3 := Tryz.sizeOf3
 v3 := Tryz.zeroValue3
 t4 := Tryz.underlying4
 a4 := Tryz.isAgg4
 z4 := Tryz.sizeOf4
 v4 := Tryz.zeroValue4
 t5 := Tryz.underlying5
 a5 := Tryz.isAgg5
 z5 := Tryz.sizeOf5
 v5 := Tryz.zeroValue5
 t9 := Tryz.underlying9
 a9 := Tryz.isAgg9
 z9 := Tryz.sizeOf9
 v9 := Tryz.zeroValue9
 t46 := Tryz.underlying46
 a46 := Tryz.isAgg46
 z46 := Tryz.sizeOf46
 v46 := Tryz.zeroValue46
 t53 := Tryz.underlying34
 a53 := Tryz.isAgg34
 z53 := Tryz.sizeOf34
 v53 := Tryz.zeroValue34 }
theorem Tryz.bits_LeadingZeros64 (x : Int) (w : World) (h0 : 0 ≤ x) (h1 : x ≤ 18446744073709551615) :
 Calls Tryz.prog 73 #[.int .u64 x] w fun e w' => e = .returned (.int .i64 (64 - (Lib.bitLen x.toNat : Int))) ∧ w' = w := Any.bits_LeadingZeros64 Tryz.lays134 x w h0 h1
def Tryz.lays129_ren : Go.Shelf.Ren := ⟨fun | 129 => 41 | n => n, fun | 53 => 34 | 3 => 3 | 4 => 4 | 46 => 46 | 5 => 5 | 9 => 9 | n => n, fun | n => n⟩
theorem Tryz.lays129 : Go.Proofs.Lays.n129 Tryz.prog Tryz.lays129_ren := {
 mixed := by kernel_rfl
 f129 := Tryz.func41.trans (congrArg some (by kernel_rfl))
 t3 := Tryz.underlying3
 a3 := Tryz.isAgg3
 z3 := Tryz.sizeOf3
 v3 := Tryz.zeroValue3
 t4 := Tryz.underlying4
 a4 := Tryz.isAgg4
 z4 := Tryz.sizeOf4
 v4 := Tryz.zeroValue4
 t5 := Tryz.underlying5
 a5 := Tryz.isAgg5
 z5 := Tryz.sizeOf5
 v5 := Tryz.zeroValue5
 t9 := Tryz.underlying9
 a9 := Tryz.isAgg9
 z9 := Tryz.sizeOf9
 v9 := Tryz.zeroValue9
 t46 := Tryz.underlying46
 a46 := Tryz.isAgg46
 z46 := Tryz.sizeOf46
 v46 := Tryz.zeroValue46
 t53 := Tryz.underlying34
 a53 := Tryz.isAgg34
 z53 := Tryz.sizeOf34
 v53 := Tryz.zeroValue34 }
theorem Tryz.bits_Len64 (x : Int) (w : World) (h0 : 0 ≤ x) (h1 : x ≤ 18446744073709551615) :
 Calls Tryz.prog 41 #[.int .u64 x] w fun e w' => e = .returned (.int .i64 (Lib.bitLen x.toNat)) ∧ w' = w := Any.bits_Len64 Tryz.lays129 x w h0 h1
def Tryz.lays264_ren : Go.Shelf.Ren := ⟨fun | 264 => 42 | n => n, fun | 53 => 34 | 46 => 46 | n => n, fun | n => n⟩
theorem Tryz.lays264 : Go.Proofs.Lays.n264 Tryz.prog Tryz.lays264_ren := {
 mixed := by kernel_rfl
 f264 := Tryz.func42.trans (congrArg some (by kernel_rfl))
 t46 := Tryz.underlying46
 a46 := Tryz.isAgg46
 z46 := Tryz.sizeOf46
 v46 := Tryz.zeroValue46
 t53 := Tryz.underlying34
 a53 := Tryz.isAgg34
 z53 := Tryz.sizeOf34
 v53 := Tryz.zeroValue34 }
open Go.RowKit Go.Lib in
theorem Tryz.bits_Mul64 (x y : Nat) (hx : x < 18446744073709551616) (hy : y < 18446744073709551616) (w : World) :
 Calls Tryz.prog 42 #[.int .u64 x, .int .u64 y] w fun e w' => e = .returned (.tuple #[.int .u64 ((x * y / 18446744073709551616 : Nat) : Int), .int .u64 ((x * y % 18446744073709551616 : Nat) : Int)]) ∧ w' = w := Any.bits_Mul64 Tryz.lays264 x y hx hy w

theorem Tryz.add64_run (x y c : Nat) (hc : c ≤ 1) (w : World) :
 (callFunc 43 #[.int .u64 x, .int .u64 y, .int .u64 c]).run Tryz.prog w =
  .ok (.value (.tuple #[.int .u64 (((x + y + c) % 18446744073709551616 : Nat) : Int), .int .u64 (((x + y + c) / 18446744073709551616 : Nat) : Int)])) w := by
 rw [run_callFunc_extern Tryz.func43 (by kernel_rfl) (by kernel_rfl) (by kernel_rfl) (e := add64Entry) (by kernel_rfl), run_add64 x y c (by omega) (by omega) (by omega) (by omega)]
 simp only [Result.andThen]
 congr 5 <;> omega
theorem Tryz.sub64_run (x y b : Nat) (hb : b ≤ 1) (w : World) :
 (callFunc 78 #[.int .u64 x, .int .u64 y, .int .u64 b]).run Tryz.prog w =
  .ok (.value (.tuple #[.int .u64 (((x + 18446744073709551616 - y - b) % 18446744073709551616 : Nat) : Int), .int .u64 ((if x < y + b then 1 else 0 : Nat) : Int)])) w := by
 rw [run_callFunc_extern Tryz.func78 (by kernel_rfl) (by kernel_rfl) (by kernel_rfl) (e := sub64Entry) (by kernel_rfl), run_sub64 x y b hb]
 rfl
end Go.Proofs

namespace Go.Proofs.YtlaphnlolgokiaaGreatDoor
open Go.RowKit

theorem eqB {a b : Int} (h : a ≠ b) : (a == b) = false := by simpa using h
theorem neB {a b : Int} (h : a ≠ b) : (a != b) = true := by simpa using h
theorem drewN_add (w : World) (n m : Nat) : (w.drewN n).drewN m = w.drewN (n + m) := by simp [World.drewN, Nat.add_assoc]
theorem drewN_3 (w : World) (n m k : Nat) : ((w.drewN n).drewN m).drewN k = w.drewN (n + m + k) := by simp [World.drewN, Nat.add_assoc]
theorem add_succ (a : Addr) (n : Nat) : a.add (n + 1) = ⟨a.block, a.off + (n + 1), none⟩ := by simp [Addr.add]
theorem dr1 (w : World) (n : Nat) : ∃ k, w.drewN n = w.drewN k := ⟨n, rfl⟩
theorem dr2 (w : World) (n m : Nat) : ∃ k, (w.drewN n).drewN m = w.drewN k := ⟨_, drewN_add _ _ _⟩
theorem dr3 (w : World) (n m k : Nat) : ∃ d, ((w.drewN n).drewN m).drewN k = w.drewN d := ⟨_, drewN_3 _ _ _ _⟩
theorem add_blk (g j : Nat) : (⟨g, 0, none⟩ : Addr).add j = ⟨g, j, none⟩ := by
 rcases Nat.eq_zero_or_pos j with h | h
 · subst h; rfl
 · simp [Addr.add, Nat.pos_iff_ne_zero.1 h]
def nts (l : List Nat) : List Value := l.map fun x : Nat => .int .u64 (x : Int)
theorem nts_length (l : List Nat) : (nts l).length = l.length := by simp [nts]
theorem nts_get {l : List Nat} {i : Nat} (h : i < l.length) : (nts l)[i]? = some (.int .u64 (dg l i : Int)) := by
 rw [getD_eq h]; simp [nts, List.getElem?_eq_getElem h]
theorem nts_take (l : List Nat) (n : Nat) : (nts l).take n = nts (l.take n) := by simp [nts]
theorem oneCell_nts (l : List Nat) : ∀ u ∈ nts l, u.oneCell' = true := by
 intro u hu
 obtain ⟨x, _, rfl⟩ := List.mem_map.1 hu
 rfl

def Lim (l : List Nat) : Prop := (∀ x ∈ l, x < 18446744073709551616) ∧ l.length ≤ 1000000
def RN (w : World) (P : Nat → Prop) (A : Option Addr) (c : Nat) (l : List Nat) : Prop := RS w P 1 A l.length c (nts l) ∧ Lim l
def Blk (w : World) (g : Nat) (l : List Nat) : Prop := w.heap[g]? = some (.cells (nts l).toArray 34 (0, 0))
def OB (w : World) (base : Nat) (A : Option Addr) (c : Nat) (l : List Nat) : Prop :=
 Lim l ∧ l.length ≤ c ∧ c ≤ maxLen ∧ (0 < l.length → ∃ g cur, A = some ⟨g, 0, none⟩ ∧ base ≤ g ∧ w.heap[g]? = some (.cells cur 34 (0, 0)) ∧ ∀ (j : Nat) u, (nts l)[j]? = some u → cur[j]? = some u)

section
variable {w w' : World} {P P' : Nat → Prop} {A : Option Addr} {c g base : Nat} {l : List Nat}
theorem Lim.nil_ : Lim [] := ⟨by simp, by simp⟩
theorem Lim.take (h : Lim l) (n : Nat) : Lim (l.take n) := ⟨fun x hx => h.1 x (List.mem_of_mem_take hx), by rw [List.length_take]; have := h.2; omega⟩
theorem Lim.set (h : Lim l) (i x : Nat) (hx : x < 18446744073709551616) : Lim (l.set i x) := ⟨set_lt h.1 hx, by simpa using h.2⟩
theorem Lim.dgLt (h : Lim l) (i : Nat) : dg l i < 18446744073709551616 := getD_lt (by omega) h.1 i
theorem Lim.digs {B v : Nat} (hB : 2 ≤ B) (hB' : B ≤ 18446744073709551616) (hl : v < B ^ 1000000) : Lim (digs B v) := ⟨fun x hx => Nat.lt_of_lt_of_le (digs_lt hB v x hx) hB', digs_length_of_lt hB hl⟩
theorem Lim.trim (h : Lim l) : ∃ n, n ≤ l.length ∧ Go.Proofs.YtlaphnlolgokiaaGreatDoor.digs 18446744073709551616 (val 18446744073709551616 l) = l.take n := by
  refine ⟨(Go.Proofs.YtlaphnlolgokiaaGreatDoor.digs 18446744073709551616 (val 18446744073709551616 l)).length, digs_length_le (by omega) h.1, ?_⟩
  obtain ⟨n, hn, hz, h0⟩ : ∃ n, n ≤ l.length ∧ (∀ x ∈ l.drop n, x = 0) ∧ (0 < n → dg l (n - 1) ≠ 0) := by
    have : ∀ k, k ≤ l.length → (∀ x ∈ l.drop k, x = 0) → ∃ n, n ≤ l.length ∧ (∀ x ∈ l.drop n, x = 0) ∧ (0 < n → dg l (n - 1) ≠ 0) := by
      intro k
      induction k with
      | zero => intro _ hz; exact ⟨0, by omega, hz, by omega⟩
      | succ k ih =>
        intro hk hz
        by_cases h : dg l k = 0
        · refine ih (by omega) fun x hx => ?_
          rw [List.drop_eq_getElem_cons (by omega : k < l.length)] at hx
          rcases List.mem_cons.1 hx with rfl | hx
          · rwa [getD_eq (by omega)] at h
          · exact hz x hx
        · exact ⟨k + 1, hk, hz, fun _ => by simpa using h⟩
    exact this l.length (Nat.le_refl _) (by simp)
  have h1 := take_digs (B := 18446744073709551616) (by omega) h.1 hn hz h0
  rw [← h1, List.length_take, Nat.min_eq_left hn]
theorem RN.keep (h : RN w P A c l) (hk : ∀ p : Addr, P p.block → w'.cell? p = w.cell? p) : RN w' P A c l := ⟨h.1.keep hk, h.2⟩
theorem RN.mono (h : RN w P A c l) (hp : ∀ b, P b → P' b) : RN w P' A c l := ⟨h.1.mono hp, h.2⟩
theorem RN.below {B : Nat} (h : RN w P A c l) (hb : Below B w w') (hB : ∀ b, P b → b < B) : RN w' P A c l := ⟨h.1.below hb hB, h.2⟩
theorem RN.drewN (h : RN w P A c l) (n : Nat) : RN (w.drewN n) P A c l := h
theorem RN.cap (h : RN w P A c l) : l.length ≤ c ∧ c ≤ 9223372036854775807 ∧ l.length ≤ 1000000 := ⟨h.1.1, h.1.2.1, h.2.2⟩
theorem RN.nil_ (w : World) (P : Nat → Prop) : RN w P none 0 [] := ⟨RS.nil_ _ _ _, Lim.nil_⟩
theorem RN.take (h : RN w P A c l) (n : Nat) : RN w P A c (l.take n) := by
 by_cases hn : n ≤ l.length
 · refine ⟨?_, h.2.take n⟩
   have := h.1.pre hn
   rw [Nat.mul_one, nts_take] at this
   rwa [List.length_take, Nat.min_eq_left hn]
 · rw [List.take_of_length_le (by omega)]; exact h
theorem RN.at_ (h : RN w P A c l) {i : Nat} (hi' : i < l.length) : ∃ ad, A = some ad ∧ P ad.block ∧ w.cell? (ad.add i) = some (.int .u64 (dg l i : Int)) := by
 obtain ⟨⟨h1, h2, h3, h4⟩, h5⟩ := h
 obtain ⟨ad, rfl, hb, hc⟩ := h4 (by omega)
 exact ⟨ad, rfl, hb, hc _ _ (nts_get hi')⟩
theorem RN.cells {ad : Addr} (h : RN w P (some ad) c l) : ∀ i, i < l.length → w.cell? (ad.add i) = some (.int .u64 (dg l i : Int)) := by
 intro i hi
 obtain ⟨ad', e, _, hc⟩ := h.at_ hi
 cases e
 exact hc
theorem RN.lt (h : RN w P A c l) (i : Nat) : (dg l i : Int) < 18446744073709551616 := by have := h.2.dgLt i; omega
theorem Blk.cell (h : Blk w g l) {i : Nat} (hi : i < l.length) : w.cell? ⟨g, i, none⟩ = some (.int .u64 (dg l i : Int)) := by
 rw [blk_cell h i, List.getElem?_toArray, nts_get hi]
theorem Blk.free (h : Blk w g l) (i : Nat) : w.frozen? ⟨g, i, none⟩ = false := blk_free h i
theorem Blk.lt (h : Blk w g l) : g < w.heap.size := blk_lt h
theorem Blk.set (h : Blk w g l) (i : Nat) (x : Nat) : Blk (w.setCell ⟨g, i, none⟩ (.int .u64 (x : Int))) g (l.set i x) := by
 unfold Blk at *
 simp [World.setCell, Array.getElem?_modify, h, nts]
theorem Blk.below {B : Nat} (h : Blk w g l) (hb : Below B w w') (hg : g < B) : Blk w' g l := (hb.block g hg).trans h
theorem Blk.drewN (h : Blk w g l) (n : Nat) : Blk (w.drewN n) g l := h
theorem Blk.other (h : Blk w g l) {p : Addr} (hp : g ≠ p.block) (v : Value) : Blk (w.setCell p v) g l := (Below.heap_setCell w p v g hp).trans h
theorem Blk.alloc (h : Blk w g l) (o : Obj) : Blk (w.alloc o) g l := (Below.heap_alloc w o g (blk_lt h)).trans h
theorem Blk.made (w : World) (n : Nat) : Blk (w.alloc (.cells (madeCells #[.int .u64 0] n) 34)) w.heap.size (List.replicate n 0) := by
 unfold Blk
 rw [heap_alloc_new]
 congr 1
 congr 1
 apply Array.ext_getElem?
 intro i
 by_cases hi : i < n
 · have hs : i < (madeCells #[Value.int .u64 0] n).size := by rw [size_madeCells]; simpa using hi
   rw [Array.getElem?_eq_getElem hs]
   simp [madeCells, nts, hi, Nat.mod_one]
 · rw [Array.getElem?_eq_none (by rw [size_madeCells]; omega), Array.getElem?_eq_none (by simp [nts]; omega)]
theorem OB.rn (h : OB w base A c l) : RN w (In base w.heap.size) A c l := by
 obtain ⟨h1, h2, h3, h4⟩ := h
 refine ⟨⟨h2, h3, by simp [nts], fun hn => ?_⟩, h1⟩
 obtain ⟨g, cur, rfl, hg, hh, hc⟩ := h4 hn
 refine ⟨_, rfl, ⟨hg, blk_lt hh⟩, fun j u hu => ?_⟩
 have := blk_cell hh j
 rw [hc j u hu] at this
 rw [add_blk]
 exact this
theorem OB.nil_ (w : World) (base : Nat) : OB w base none 0 [] := ⟨Lim.nil_, Nat.le_refl _, by unfold maxLen; omega, fun h => absurd h (by simp)⟩
theorem OB.below {B : Nat} (h : OB w base A c l) (hb : Below B w w') (hB : w.heap.size ≤ B) : OB w' base A c l := by
 obtain ⟨h1, h2, h3, h4⟩ := h
 refine ⟨h1, h2, h3, fun hn => ?_⟩
 obtain ⟨g, cur, rfl, hg, hh, hc⟩ := h4 hn
 exact ⟨g, cur, rfl, hg, (hb.block g (Nat.lt_of_lt_of_le (blk_lt hh) hB)).trans hh, hc⟩
theorem OB.drewN (h : OB w base A c l) (n : Nat) : OB (w.drewN n) base A c l := h
theorem OB.mono {base' : Nat} (h : OB w base A c l) (hb : base' ≤ base) : OB w base' A c l := by
 obtain ⟨h1, h2, h3, h4⟩ := h
 refine ⟨h1, h2, h3, fun hn => ?_⟩
 obtain ⟨g, cur, e, hg, hh, hc⟩ := h4 hn
 exact ⟨g, cur, e, by omega, hh, hc⟩
theorem OB.cap (h : OB w base A c l) : l.length ≤ c ∧ c ≤ 9223372036854775807 ∧ l.length ≤ 1000000 := ⟨h.2.1, h.2.2.1, h.1.2⟩
theorem OB.take (h : OB w base A c l) (n : Nat) : OB w base A c (l.take n) := by
 obtain ⟨h1, h2, h3, h4⟩ := h
 refine ⟨h1.take n, by rw [List.length_take]; omega, h3, fun hn => ?_⟩
 obtain ⟨g, cur, e, hg, hh, hc⟩ := h4 (by rw [List.length_take] at hn; omega)
 refine ⟨g, cur, e, hg, hh, fun j u hu => hc j u ?_⟩
 rw [← nts_take, List.getElem?_take] at hu
 split at hu
 · exact hu
 · cases hu
theorem OB.of_blk (h : Blk w g l) (hg : base ≤ g) (hl : Lim l) {c : Nat} (hc : l.length ≤ c) (hc' : c ≤ maxLen) : OB w base (some ⟨g, 0, none⟩) c l :=
 ⟨hl, hc, hc', fun _ => ⟨g, _, rfl, hg, h, fun j u hu => by rw [List.getElem?_toArray]; exact hu⟩⟩
theorem OB.of_own (h : w.ownsRow base 34 1 (.slice A l.length c) l.length (nts l)) (hl : Lim l) : OB w base A c l := by
 obtain ⟨h0, ⟨e1, e2⟩ | ⟨g, cap, cur, e1, hg, hh, h5, h6, h7, h8⟩⟩ := h
 · injection e1 with e1 e3 e4
   have : l = [] := List.eq_nil_of_length_eq_zero e2
   subst e1 e4 this
   exact OB.nil_ w base
 · injection e1 with e1 e2 e3
   subst e1 e3
   refine ⟨hl, h5, h6, fun _ => ⟨g, cur, rfl, hg, hh, fun j u hu => ?_⟩⟩
   rw [← h8, List.getElem?_take] at hu
   split at hu
   · rwa [Array.getElem?_toList] at hu
   · cases hu
end

theorem info64 : (Tryz.prog.info? 34).map (fun i => (i.zero, i.size, i.bytes)) = some (some (.int .u64 0), 1, 8) := by kernel_rfl
end Go.Proofs.YtlaphnlolgokiaaGreatDoor

namespace Go.Proofs.YtlaphnlolgokiaaGreatDoor
open Go.RowKit

def CutAt (l : List Nat) (k : Nat) : Prop := k ≤ l.length ∧ ∀ x ∈ l.drop k, x = 0
theorem CutAt.zero (l : List Nat) : CutAt l l.length := ⟨Nat.le_refl _, by simp⟩
theorem CutAt.step {l : List Nat} {k : Nat} (h : CutAt l (k + 1)) (h0 : dg l k = 0) : CutAt l k := by
 obtain ⟨h1, h2⟩ := h
 refine ⟨by omega, fun x hx => ?_⟩
 rw [List.drop_eq_getElem_cons (by omega : k < l.length)] at hx
 rcases List.mem_cons.1 hx with rfl | hx
 · rwa [getD_eq (by omega)] at h0
 · exact h2 x hx
theorem CutAt.fin {B : Nat} (hB : 2 ≤ B) {l : List Nat} (hl : ∀ x ∈ l, x < B) {k : Nat} (h : CutAt l k) (h0 : 0 < k → dg l (k - 1) ≠ 0) : l.take k = digs B (val B l) :=
 take_digs hB hl h.1 h.2 h0
theorem CutAt.len {B : Nat} (hB : 2 ≤ B) {l : List Nat} (hl : ∀ x ∈ l, x < B) {k : Nat} (h : CutAt l k) (h0 : 0 < k → dg l (k - 1) ≠ 0) : (digs B (val B l)).length = k := by
 rw [← h.fin hB hl h0, List.length_take, Nat.min_eq_left h.1]

set_option maxHeartbeats 400000 in
theorem trim_any (P : Nat → Prop) (A : Option Addr) (c : Nat) (l : List Nat) (w : World) (h : RN w P A c l) :
 Calls Tryz.prog 40 #[.slice A l.length c] w fun e w' => e = .returned (.slice A (digs 18446744073709551616 (val 18446744073709551616 l)).length c) ∧ w = w' := by
 obtain ⟨h1, h2, h3⟩ := h.cap
 go_enter Tryz.func40, Tryz.ntmps40
 go_wp2
 go_loop [3] (fun n => ∃ k : Nat, CutAt l k ∧ n = .int .i64 k) (fun n => (intOf n).toNat)
 case atStart => exact ⟨l.length, CutAt.zero l, rfl⟩
 case round =>
  obtain ⟨k, hk, rfl⟩ := hrel
  rcases k with _ | k
  · have hl := Lib.hid (hk.len (B := 18446744073709551616) (by omega) h.2.1 (by omega))
    go_wp2
    go_ret
    rw [hl.out]
    exact ⟨rfl, rfl⟩
  · obtain ⟨ad, rfl, _, hc⟩ := h.at_ (i := k) (by have := hk.1; omega)
    have hkl := hk.1
    by_cases h0 : dg l k = 0
    · rw [h0] at hc
      have hk' := hk.step h0
      clear hk h0
      go_wp2
      go_round
      case rel => exact ⟨k, hk', by go_num⟩
      case measure => simp [intOf]
    · have hl := Lib.hid (hk.len (B := 18446744073709551616) (by omega) h.2.1 (fun _ => h0))
      have h0' : (((dg l k : Nat) : Int) == 0) = false := eqB (by omega)
      clear h0
      go_wp2
      go_ret
      rw [hl.out]
      exact ⟨rfl, rfl⟩

theorem RN.trim {w : World} {P : Nat → Prop} {A : Option Addr} {c : Nat} {l : List Nat} (h : RN w P A c l) : RN w P A c (digs 18446744073709551616 (val 18446744073709551616 l)) := by
 obtain ⟨n, _, e⟩ := h.2.trim
 rw [e]
 exact h.take n
theorem OB.trim {w : World} {base : Nat} {A : Option Addr} {c : Nat} {l : List Nat} (h : OB w base A c l) : OB w base A c (digs 18446744073709551616 (val 18446744073709551616 l)) := by
 obtain ⟨n, _, e⟩ := h.1.trim
 rw [e]
 exact h.take n

def Dig (l : List Nat) : Prop := ∀ x ∈ l, x < 4294967296
theorem Dig.cut {l : List Nat} (h : Dig l) : ∃ n, n ≤ l.length ∧ l.take n = digs 4294967296 (val 4294967296 l) := by
  have : ∀ k, k ≤ l.length → (∀ x ∈ l.drop k, x = 0) → ∃ n, n ≤ l.length ∧ (∀ x ∈ l.drop n, x = 0) ∧ (0 < n → l.getD (n - 1) 0 ≠ 0) := by
    intro k
    induction k with
    | zero => intro _ hz; exact ⟨0, by omega, hz, by omega⟩
    | succ k ih =>
      intro hk hz
      by_cases h : l.getD k 0 = 0
      · refine ih (by omega) fun x hx => ?_
        rw [List.drop_eq_getElem_cons (by omega : k < l.length)] at hx
        rcases List.mem_cons.1 hx with rfl | hx
        · rwa [show l.getD k 0 = l[k] from getD_eq (by omega)] at h
        · exact hz x hx
      · exact ⟨k + 1, hk, hz, fun _ => by simpa using h⟩
  obtain ⟨n, hn, hz, h0⟩ := this l.length (Nat.le_refl _) (by simp)
  exact ⟨n, hn, take_digs (by omega) h hn hz h0⟩
theorem RS.recap {w : World} {P : Nat → Prop} {size : Nat} {A : Option Addr} {n c c' : Nat} {cs : List Value} (h : RS w P size A n c cs) (hc : n ≤ c') (hc' : c' ≤ maxLen) : RS w P size A n c' cs := ⟨hc, hc', h.2.2⟩
theorem RN.trim32 {w : World} {P : Nat → Prop} {A : Option Addr} {c : Nat} {l : List Nat} (h : RN w P A c l) (hl : Dig l) : RN w P A (digs 4294967296 (val 4294967296 l)).length (digs 4294967296 (val 4294967296 l)) := by
 obtain ⟨n, _, e⟩ := hl.cut
 rw [← e]
 have := h.take n
 exact ⟨this.1.recap (Nat.le_refl _) (by have := this.cap; unfold maxLen; omega), this.2⟩
theorem RN.recap {w : World} {P : Nat → Prop} {A : Option Addr} {c c' : Nat} {l : List Nat} (h : RN w P A c l) (hc : l.length ≤ c') (hc' : c' ≤ maxLen) : RN w P A c' l := ⟨h.1.recap hc hc', h.2⟩

set_option maxHeartbeats 400000 in
theorem refTrim_any (P : Nat → Prop) (A : Option Addr) (c : Nat) (l : List Nat) (w : World) (h : RN w P A c l) (hd : Dig l) :
 Calls Tryz.prog 50 #[.slice A l.length c] w fun e w' => e = .returned (.slice A (digs 4294967296 (val 4294967296 l)).length (digs 4294967296 (val 4294967296 l)).length) ∧ w = w' := by
 obtain ⟨h1, h2, h3⟩ := h.cap
 go_enter Tryz.func50, Tryz.ntmps50
 go_wp2
 go_loop [3] (fun n => ∃ k : Nat, CutAt l k ∧ n = .int .i64 k) (fun n => (intOf n).toNat)
 case atStart => exact ⟨l.length, CutAt.zero l, rfl⟩
 case round =>
  obtain ⟨k, hk, rfl⟩ := hrel
  rcases k with _ | k
  · have hl := Lib.hid (hk.len (B := 4294967296) (by omega) hd (by omega))
    go_wp2
    go_ret
    rw [hl.out]
    exact ⟨rfl, rfl⟩
  · obtain ⟨ad, rfl, _, hc⟩ := h.at_ (i := k) (by have := hk.1; omega)
    have hkl := hk.1
    by_cases h0 : dg l k = 0
    · rw [h0] at hc
      have hk' := hk.step h0
      clear hk h0
      go_wp2
      go_round
      case rel => exact ⟨k, hk', by go_num⟩
      case measure => simp [intOf]
    · have hl := Lib.hid (hk.len (B := 4294967296) (by omega) hd (fun _ => h0))
      have h0' : (((dg l k : Nat) : Int) == 0) = false := eqB (by omega)
      clear h0
      go_wp2
      go_ret
      rw [hl.out]
      exact ⟨rfl, rfl⟩

set_option maxHeartbeats 400000 in
theorem made_any (P : Nat → Prop) (A : Option Addr) (c : Nat) (l : List Nat) (w : World) (h : RN w P A c l) :
 Calls Tryz.prog 71 #[.slice A l.length c] w fun e w' => ∃ A' c', e = .returned (.slice A' (digs 18446744073709551616 (val 18446744073709551616 l)).length c') ∧ OB w' w.heap.size A' c' (digs 18446744073709551616 (val 18446744073709551616 l)) ∧ Below w.heap.size w w' := by
 obtain ⟨i0, hi, hz0, hz1, hz2⟩ := info_parts info64
 have ht := h.trim
 obtain ⟨n, _, e⟩ := h.2.trim
 have hcap := ht.cap
 obtain ⟨d, hd⟩ : ∃ d, digs 18446744073709551616 (val 18446744073709551616 l) = d := ⟨_, rfl⟩
 have Htr := Lib.hid (trim_any P A c l w h)
 rw [hd] at ht hcap Htr ⊢
 obtain ⟨h1, h2, h3⟩ := hcap
 clear hd e
 go_enter Tryz.func71, Tryz.ntmps71
 go_wp2_with fail
 refine Htr.out.mono ?_
 rintro e w1 ⟨rfl, rfl⟩
 go_wp2_with (at_builtin; refine wpList_append_rs _ rfl _ _ 23 rfl w.heap.size 34 i0 (.int .u64 0) 1 8 Tryz.underlying23 hi hz0 hz1 hz2 rfl (by decide) _ 0 [] rfl (World.ownsRow_nil _ _ _ _) P A d.length c (nts d) rfl ht.1 (oneCell_nts d) d.length (by omega) (by unfold maxLen; omega) (by omega) (Nat.le_refl _) ?_)
 intro A' c' w1 hown hgrow hblk
 go_wp2
 go_ret
 exact ⟨A', c', rfl, OB.of_own (by simpa using hown) ht.2, (Below.refl _ w).grown hgrow (Nat.le_refl _) (by intro k hk; simp [Value.ownBlock] at hk)⟩

set_option maxHeartbeats 400000 in
theorem norm_any (P : Nat → Prop) (A : Option Addr) (c : Nat) (l : List Nat) (w : World) (h : RN w P A c l) :
 Calls Tryz.prog 57 #[.slice A l.length c] w fun e w' => ∃ A' c', e = .returned (.slice A' (digs 18446744073709551616 (val 18446744073709551616 l)).length c') ∧ OB w' w.heap.size A' c' (digs 18446744073709551616 (val 18446744073709551616 l)) ∧ Below w.heap.size w w' := by
 go_enter Tryz.func57, Tryz.ntmps57
 go_wp2_with fail
 refine (made_any P A c l w h).mono ?_
 rintro e w1 ⟨A', c', rfl, hO, hB⟩
 go_wp2
 go_ret
 exact ⟨A', c', rfl, hO, hB⟩

set_option maxHeartbeats 400000 in
theorem of_any (x : Nat) (w : World) (hx : x < 18446744073709551616) :
 Calls Tryz.prog 47 #[.int .u64 (x : Int)] w fun e w' => ∃ A' c', e = .returned (.slice A' (digs 18446744073709551616 x).length c') ∧ OB w' w.heap.size A' c' (digs 18446744073709551616 x) ∧ Below w.heap.size w w' := by
 have hv : val 18446744073709551616 [x] = x := by simp
 have hm := fun P A c w => made_any P A c [x] w
 rw [hv] at hm
 have Hm := Lib.hid hm
 clear hm hv
 go_enter Tryz.func47, Tryz.ntmps47
 go_wp2_with fail
 refine (Hm.out (In w.heap.size (w.heap.size + 1)) _ _ _ ⟨RS.fresh #[.int .u64 (x : Int)] 34 1 1 rfl (by unfold maxLen; omega) ⟨Nat.le_refl _, by omega⟩, by simpa [Lim] using hx⟩).mono ?_
 rintro e w1 ⟨A', c', rfl, hO, hB⟩
 go_wp2
 go_ret
 exact ⟨A', c', rfl, hO.mono (by simp), ((Below.refl _ w).alloc (Nat.le_refl _) _).trans (hB.mono (by simp))⟩
end Go.Proofs.YtlaphnlolgokiaaGreatDoor

namespace Go.Proofs.YtlaphnlolgokiaaGreatDoor
open Go.RowKit

def cmpV (x y : Nat) : Int := if x < y then -1 else if x = y then 0 else 1
theorem cmpV_lt {x y : Nat} (h : x < y) : cmpV x y = -1 := by simp [cmpV, h]
theorem cmpV_gt {x y : Nat} (h : y < x) : cmpV x y = 1 := by simp [cmpV, show ¬ x < y by omega, show ¬ x = y by omega]
theorem cmpV_eq (x : Nat) : cmpV x x = 0 := by simp [cmpV]
theorem cmpV_cases (x y : Nat) : (x < y ∧ cmpV x y = -1) ∨ (x = y ∧ cmpV x y = 0) ∨ (y < x ∧ cmpV x y = 1) := by
 rcases Nat.lt_trichotomy x y with h | h | h
 · exact .inl ⟨h, cmpV_lt h⟩
 · exact .inr (.inl ⟨h, by rw [h]; exact cmpV_eq y⟩)
 · exact .inr (.inr ⟨h, cmpV_gt h⟩)

def CmpAt (l m : List Nat) (k : Nat) (i : Int) : Prop := k ≤ l.length ∧ l.drop k = m.drop k ∧ ((k = 0 ∧ i = -1) ∨ ∃ j : Nat, k = j + 1 ∧ i = (j : Int))
theorem CmpAt.start {l m : List Nat} (h : l.length = m.length) : CmpAt l m l.length ((l.length : Int) - 1) := by
 refine ⟨Nat.le_refl _, by rw [List.drop_length, h, List.drop_length], ?_⟩
 rcases hl : l.length with _ | n
 · exact .inl ⟨rfl, by simp⟩
 · exact .inr ⟨n, rfl, by omega⟩
theorem CmpAt.step {l m : List Nat} {j : Nat} {i : Int} (h : CmpAt l m (j + 1) i) (hl : l.length = m.length) (he : dg l j = dg m j) : CmpAt l m j ((j : Int) - 1) := by
 obtain ⟨h1, h2, _⟩ := h
 refine ⟨by omega, ?_, ?_⟩
 · rw [List.drop_eq_getElem_cons (by omega : j < l.length), List.drop_eq_getElem_cons (by omega : j < m.length), h2]
   rw [dg, dg, getD_eq' (by omega), getD_eq' (by omega)] at he
   rw [he]
 · rcases j with _ | j
   · exact .inl ⟨rfl, by simp⟩
   · exact .inr ⟨j, rfl, by omega⟩
theorem CmpAt.done {l m : List Nat} {i : Int} (h : CmpAt l m 0 i) : l = m := by simpa using h.2.1
theorem CmpAt.lt {B : Nat} {l m : List Nat} {j : Nat} {i : Int} (h : CmpAt l m (j + 1) i) (hl : l.length = m.length) (hB : ∀ x ∈ l, x < B) (hd : dg l j < dg m j) : val B l < val B m := by
 obtain ⟨h1, h2, _⟩ := h
 refine val_lt_of hB hl (i := j) (by omega) h2 ?_
 rwa [dg, dg, getD_eq' (by omega), getD_eq' (by omega)] at hd
theorem CmpAt.gt {B : Nat} {l m : List Nat} {j : Nat} {i : Int} (h : CmpAt l m (j + 1) i) (hl : l.length = m.length) (hB : ∀ x ∈ m, x < B) (hd : dg m j < dg l j) : val B m < val B l := by
 obtain ⟨h1, h2, _⟩ := h
 refine val_lt_of hB hl.symm (i := j) (by omega) h2.symm ?_
 rwa [dg, dg, getD_eq' (by omega), getD_eq' (by omega)] at hd

set_option maxHeartbeats 1000000 in
theorem refCmp_any (P P' : Nat → Prop) (A A' : Option Addr) (c c' : Nat) (x y : Nat) (w : World) (h : RN w P A c (digs 4294967296 x)) (h' : RN w P' A' c' (digs 4294967296 y)) :
 Calls Tryz.prog 25 #[.slice A (digs 4294967296 x).length c, .slice A' (digs 4294967296 y).length c'] w fun e w' => e = .returned (.int .i64 (cmpV x y)) ∧ ∃ n, w' = w.drewN n := by
 have hx := val_digs (B := 4294967296) (by omega) x
 have hy := val_digs (B := 4294967296) (by omega) y
 have bx := digs_lt (B := 4294967296) (by omega) x
 have byy := digs_lt (B := 4294967296) (by omega) y
 have hlt := lt_of_digs_length (B := 4294967296) (m := x) (n := y) (by omega)
 have hgt := lt_of_digs_length (B := 4294967296) (m := y) (n := x) (by omega)
 generalize digs 4294967296 x = l at *
 generalize digs 4294967296 y = m at *
 obtain ⟨h1, h2, h3⟩ := h.cap
 obtain ⟨g1, g2, g3⟩ := h'.cap
 have Hx := Lib.hid hx
 have Hy := Lib.hid hy
 clear hx hy
 by_cases hl : l.length = m.length
 · have hs := CmpAt.start hl
   have Hl := Lib.hid hl
   have hl1 : ((l.length : Int) != (m.length : Int)) = false := by simp [hl]
   clear hl hlt hgt
   have Hs := Lib.hid hs
   clear hs
   go_enter Tryz.func25, Tryz.ntmps25
   go_wp2
   go_loopw [5] (fun i wr => ∃ (k n : Nat) (z : Int), CmpAt l m k z ∧ i = .int .i64 z ∧ wr = w.drewN n) (fun i _ => (intOf i + 1).toNat)
   case atStart => exact ⟨l.length, 0, _, Hs.out, rfl, rfl⟩
   case round =>
    obtain ⟨k, n, z, hk, rfl, rfl⟩ := hrel
    obtain ⟨hk1, hk2, ⟨rfl, rfl⟩ | ⟨j, rfl, rfl⟩⟩ := hk
    · have he : l = m := by simpa using hk2
      have hxy : x = y := by rw [← Hx.out, ← Hy.out, he]
      have hc := Lib.hid (show cmpV x y = 0 by rw [hxy]; exact cmpV_eq y)
      clear he hxy hk2
      go_wp2
      go_ret
      rw [hc.out]
      exact ⟨rfl, n, rfl⟩
    · have hlm := Hl.out
      obtain ⟨ad, rfl, _, q1⟩ := h.at_ (i := j) (by omega)
      obtain ⟨ae, rfl, _, q2⟩ := h'.at_ (i := j) (by omega)
      have hj1 : (j : Int) < (l.length : Int) := by omega
      have hj2 : (j : Int) < (m.length : Int) := by omega
      have hkk : CmpAt l m (j + 1) (j : Int) := ⟨hk1, hk2, .inr ⟨j, rfl, rfl⟩⟩
      rcases Nat.lt_trichotomy (dg l j) (dg m j) with hd | hd | hd
      · have hv := hkk.lt hlm bx hd
        rw [Hx.out, Hy.out] at hv
        have hc := Lib.hid (cmpV_lt hv)
        have hd1 : decide (dg l j < dg m j) = true := by simpa using hd
        clear hkk hk1 hk2 hlm hd hv
        go_wp2
        go_quiet (fail)
        go_wp2
        go_ret
        rw [hc.out]
        exact ⟨rfl, by first | exact dr2 _ _ _ | exact dr1 _ _⟩
      · have hkk' := hkk.step hlm hd
        rw [← hd] at q2
        clear hkk hk1 hk2 hlm hd
        go_wp2
        go_quiet (fail)
        go_wp2
        go_quiet (fail)
        go_wp2
        go_roundw
        case rel => exact ⟨j, _, _, hkk', rfl, by first | rfl | exact drewN_3 _ _ _ _⟩
        case measure => simp [intOf]
      · have hv := hkk.gt hlm byy hd
        rw [Hx.out, Hy.out] at hv
        have hc := Lib.hid (cmpV_gt hv)
        have hd1 : decide (dg l j < dg m j) = false := by simp; omega
        have hd2 : decide (dg m j < dg l j) = true := by simpa using hd
        clear hkk hk1 hk2 hlm hd hv
        go_wp2
        go_quiet (fail)
        go_wp2
        go_quiet (fail)
        go_wp2
        go_ret
        rw [hc.out]
        exact ⟨rfl, by first | exact dr3 _ _ _ _ | exact dr1 _ _⟩
 · have hl1 : ((l.length : Int) != (m.length : Int)) = true := neB (by omega)
   rcases Nat.lt_or_ge l.length m.length with hd | hd
   · have hc := Lib.hid (cmpV_lt (hlt hd))
     clear hl hlt hgt
     go_enter Tryz.func25, Tryz.ntmps25
     go_wp2
     go_ret
     rw [hc.out]
     exact ⟨rfl, 0, rfl⟩
   · have hc := Lib.hid (cmpV_gt (hgt (by omega)))
     clear hl hlt hgt
     go_enter Tryz.func25, Tryz.ntmps25
     go_wp2
     go_ret
     rw [hc.out]
     exact ⟨rfl, 0, rfl⟩

set_option maxHeartbeats 1000000 in
theorem cmp_any (P P' : Nat → Prop) (A A' : Option Addr) (c c' : Nat) (a b : List Nat) (w : World) (h : RN w P A c a) (h' : RN w P' A' c' b) :
 Calls Tryz.prog 16 #[.slice A a.length c, .slice A' b.length c'] w fun e w' => e = .returned (.int .i64 (cmpV (val 18446744073709551616 a) (val 18446744073709551616 b))) ∧ ∃ n, w' = w.drewN n := by
 have ta := Lib.hid (trim_any P A c a w h)
 have tb := Lib.hid (trim_any P' A' c' b w h')
 replace h := h.trim
 replace h' := h'.trim
 generalize val 18446744073709551616 a = x at *
 generalize val 18446744073709551616 b = y at *
 have hx := val_digs (B := 18446744073709551616) (by omega) x
 have hy := val_digs (B := 18446744073709551616) (by omega) y
 have bx := digs_lt (B := 18446744073709551616) (by omega) x
 have byy := digs_lt (B := 18446744073709551616) (by omega) y
 have hlt := lt_of_digs_length (B := 18446744073709551616) (m := x) (n := y) (by omega)
 have hgt := lt_of_digs_length (B := 18446744073709551616) (m := y) (n := x) (by omega)
 generalize digs 18446744073709551616 x = l at *
 generalize digs 18446744073709551616 y = m at *
 obtain ⟨h1, h2, h3⟩ := h.cap
 obtain ⟨g1, g2, g3⟩ := h'.cap
 have Hx := Lib.hid hx
 have Hy := Lib.hid hy
 clear hx hy
 by_cases hl : l.length = m.length
 · have hs := CmpAt.start hl
   have Hl := Lib.hid hl
   have hl1 : ((l.length : Int) != (m.length : Int)) = false := by simp [hl]
   clear hl hlt hgt
   have Hs := Lib.hid hs
   clear hs
   go_enter Tryz.func16, Tryz.ntmps16
   go_wp2_with fail
   refine ta.out.mono ?_
   rintro e w1 ⟨rfl, rfl⟩
   go_wp2_with fail
   refine tb.out.mono ?_
   rintro e w1 ⟨rfl, rfl⟩
   go_wp2
   go_loopw [5] (fun i wr => ∃ (k n : Nat) (z : Int), CmpAt l m k z ∧ i = .int .i64 z ∧ wr = w.drewN n) (fun i _ => (intOf i + 1).toNat)
   case atStart => exact ⟨l.length, 0, _, Hs.out, rfl, rfl⟩
   case round =>
    obtain ⟨k, n, z, hk, rfl, rfl⟩ := hrel
    obtain ⟨hk1, hk2, ⟨rfl, rfl⟩ | ⟨j, rfl, rfl⟩⟩ := hk
    · have he : l = m := by simpa using hk2
      have hxy : x = y := by rw [← Hx.out, ← Hy.out, he]
      have hc := Lib.hid (show cmpV x y = 0 by rw [hxy]; exact cmpV_eq y)
      clear he hxy hk2
      go_wp2
      go_ret
      rw [hc.out]
      exact ⟨rfl, n, rfl⟩
    · have hlm := Hl.out
      obtain ⟨ad, rfl, _, q1⟩ := h.at_ (i := j) (by omega)
      obtain ⟨ae, rfl, _, q2⟩ := h'.at_ (i := j) (by omega)
      have hj1 : (j : Int) < (l.length : Int) := by omega
      have hj2 : (j : Int) < (m.length : Int) := by omega
      have hkk : CmpAt l m (j + 1) (j : Int) := ⟨hk1, hk2, .inr ⟨j, rfl, rfl⟩⟩
      rcases Nat.lt_trichotomy (dg l j) (dg m j) with hd | hd | hd
      · have hv := hkk.lt hlm bx hd
        rw [Hx.out, Hy.out] at hv
        have hc := Lib.hid (cmpV_lt hv)
        have hd0 : (((dg l j : Nat) : Int) != ((dg m j : Nat) : Int)) = true := neB (by omega)
        have hd1 : decide (dg l j < dg m j) = true := by simpa using hd
        clear hkk hk1 hk2 hlm hd hv
        go_wp2
        go_quiet (fail)
        go_wp2
        go_quiet (fail)
        go_wp2
        go_ret
        rw [hc.out]
        exact ⟨rfl, by first | exact dr3 _ _ _ _ | exact dr1 _ _⟩
      · have hkk' := hkk.step hlm hd
        rw [← hd] at q2
        clear hkk hk1 hk2 hlm hd
        go_wp2
        go_quiet (fail)
        go_wp2
        go_roundw
        case rel => exact ⟨j, _, _, hkk', rfl, by first | rfl | exact drewN_add _ _ _⟩
        case measure => simp [intOf]
      · have hv := hkk.gt hlm byy hd
        rw [Hx.out, Hy.out] at hv
        have hc := Lib.hid (cmpV_gt hv)
        have hd0 : (((dg l j : Nat) : Int) != ((dg m j : Nat) : Int)) = true := neB (by omega)
        have hd1 : decide (dg l j < dg m j) = false := by simp; omega
        clear hkk hk1 hk2 hlm hd hv
        go_wp2
        go_quiet (fail)
        go_wp2
        go_quiet (fail)
        go_wp2
        go_ret
        rw [hc.out]
        exact ⟨rfl, by first | exact dr3 _ _ _ _ | exact dr1 _ _⟩
 · have hl1 : ((l.length : Int) != (m.length : Int)) = true := neB (by omega)
   rcases Nat.lt_or_ge l.length m.length with hd | hd
   · have hc := Lib.hid (cmpV_lt (hlt hd))
     clear hl hlt hgt
     go_enter Tryz.func16, Tryz.ntmps16
     go_wp2_with fail
     refine ta.out.mono ?_
     rintro e w1 ⟨rfl, rfl⟩
     go_wp2_with fail
     refine tb.out.mono ?_
     rintro e w1 ⟨rfl, rfl⟩
     go_wp2
     go_ret
     rw [hc.out]
     exact ⟨rfl, 0, rfl⟩
   · have hc := Lib.hid (cmpV_gt (hgt (by omega)))
     clear hl hlt hgt
     go_enter Tryz.func16, Tryz.ntmps16
     go_wp2_with fail
     refine ta.out.mono ?_
     rintro e w1 ⟨rfl, rfl⟩
     go_wp2_with fail
     refine tb.out.mono ?_
     rintro e w1 ⟨rfl, rfl⟩
     go_wp2
     go_ret
     rw [hc.out]
     exact ⟨rfl, 0, rfl⟩
end Go.Proofs.YtlaphnlolgokiaaGreatDoor

namespace Go.Proofs.YtlaphnlolgokiaaGreatDoor
open Go.RowKit

theorem add64_at (x y c s c' : Nat) (hc : c ≤ 1) (hs : s < 18446744073709551616) (he : s + 18446744073709551616 * c' = x + y + c) (w : World) :
 (callFunc 43 #[.int .u64 (x : Int), .int .u64 (y : Int), .int .u64 (c : Int)]).run Tryz.prog w = .ok (.value (.tuple #[.int .u64 (s : Int), .int .u64 (c' : Int)])) w := by
 rw [Tryz.add64_run x y c hc w, show (x + y + c) % 18446744073709551616 = s by omega, show (x + y + c) / 18446744073709551616 = c' by omega]
theorem sub64_at (x y c s c' : Nat) (hc : c ≤ 1) (hx : x < 18446744073709551616) (hy : y < 18446744073709551616) (hs : s < 18446744073709551616) (he : s + y + c = x + 18446744073709551616 * c') (hc' : c' ≤ 1) (w : World) :
 (callFunc 78 #[.int .u64 (x : Int), .int .u64 (y : Int), .int .u64 (c : Int)]).run Tryz.prog w = .ok (.value (.tuple #[.int .u64 (s : Int), .int .u64 (c' : Int)])) w := by
 rw [Tryz.sub64_run x y c hc w, show (x + 18446744073709551616 - y - c) % 18446744073709551616 = s by omega, show (if x < y + c then 1 else 0 : Nat) = c' by split <;> omega]
theorem carry_of (x y c : Nat) (hx : x < 18446744073709551616) (hy : y < 18446744073709551616) (hc : c ≤ 1) : ∃ s c', s < 18446744073709551616 ∧ c' ≤ 1 ∧ s + 18446744073709551616 * c' = x + y + c :=
 ⟨(x + y + c) % 18446744073709551616, (x + y + c) / 18446744073709551616, by omega, by omega, by omega⟩
theorem borrow_of (x y c : Nat) (hx : x < 18446744073709551616) (hy : y < 18446744073709551616) (hc : c ≤ 1) : ∃ s c', s < 18446744073709551616 ∧ c' ≤ 1 ∧ s + y + c = x + 18446744073709551616 * c' := by
 by_cases h : y + c ≤ x
 · exact ⟨x - y - c, 0, by omega, by omega, by omega⟩
 · exact ⟨x + 18446744073709551616 - y - c, 1, by omega, by omega, by omega⟩
theorem dg_none {l : List Nat} {k : Nat} (h : l.length ≤ k) : dg l k = 0 := by
 rw [dg, List.getD_eq_getElem?_getD, List.getElem?_eq_none h]; rfl


set_option maxRecDepth 100000 in
set_option maxHeartbeats 1000000 in
theorem sub_yes (P P' : Nat → Prop) (A A' : Option Addr) (c c' : Nat) (a b : List Nat) (w : World) (h : RN w P A c a) (h' : RN w P' A' c' b) (hP : ∀ b, P b → b < w.heap.size) (hP' : ∀ b, P' b → b < w.heap.size) (hl : a.length < 100000)
 (hge : val 18446744073709551616 b ≤ val 18446744073709551616 a) :
 Calls Tryz.prog 49 #[.slice A a.length c, .slice A' b.length c'] w fun e w' => ∃ A1 c1, e = .returned (.tuple #[.slice A1 (digs 18446744073709551616 (val 18446744073709551616 a - val 18446744073709551616 b)).length c1, .bool true]) ∧
  OB w' w.heap.size A1 c1 (digs 18446744073709551616 (val 18446744073709551616 a - val 18446744073709551616 b)) ∧ Below w.heap.size w w' := by
 have ta := Lib.hid (trim_any P A c a w h)
 have tb := Lib.hid (trim_any P' A' c' b w h')
 have tc := cmp_any P P' A A' c c' _ _ w h.trim h'.trim
 rw [val_digs (by omega), val_digs (by omega)] at tc
 have la := digs_length_le (B := 18446744073709551616) (by omega) h.2.1
 have hml := digs_length_mono (B := 18446744073709551616) (by omega) hge
 replace h := h.trim
 replace h' := h'.trim
 generalize val 18446744073709551616 a = x at *
 generalize val 18446744073709551616 b = y at *
 have hx := val_digs (B := 18446744073709551616) (by omega) x
 have hy := val_digs (B := 18446744073709551616) (by omega) y
 generalize digs 18446744073709551616 x = l at *
 generalize digs 18446744073709551616 y = m at *
 have hlen : l.length < 100000 := by omega
 clear la hl
 have hge' : val 18446744073709551616 m ≤ val 18446744073709551616 l := by rw [hx, hy]; exact hge
 have Hv := Lib.hid (show val 18446744073709551616 l - val 18446744073709551616 m = x - y by rw [hx, hy])
 have hcv : 0 ≤ cmpV x y := by rcases cmpV_cases x y with h | h | h <;> omega
 generalize cmpV x y = v at tc hcv
 have Tc := Lib.hid tc
 have Hge := Lib.hid hge'
 clear hx hy tc hge hge'
 obtain ⟨h1, h2, h3⟩ := h.cap
 obtain ⟨g1, g2, g3⟩ := h'.cap
 go_enter Tryz.func49, Tryz.ntmps49
 go_wp2_with fail
 refine ta.out.mono ?_
 rintro e w1 ⟨rfl, rfl⟩
 go_wp2_with fail
 refine tb.out.mono ?_
 rintro e w1 ⟨rfl, rfl⟩
 go_wp2_with fail
 refine Tc.out.mono ?_
 rintro e w1 ⟨rfl, n, rfl⟩
 have hmk := run_make_row' (P := Tryz.prog) 23 34 (.int .u64 0) 8 Tryz.underlying23 info64 rfl .i64 .i64 l.length (by omega) (by omega)
 go_wp2
 go_loopw [7, 23] (fun cv iv wr => ∃ (k cr : Nat) (o : List Nat), iv = .int .i64 (k : Int) ∧ cv = .int .u64 (cr : Int) ∧ k ≤ l.length ∧ cr ≤ 1 ∧ SubAt 18446744073709551616 l m o k cr ∧ Hid (o.length = l.length) ∧ Lim o ∧ Blk wr w.heap.size o ∧ Below w.heap.size w wr) (fun _ iv _ => l.length - (intOf iv).toNat)
 case atStart => exact ⟨0, 0, List.replicate l.length 0, rfl, rfl, by omega, by omega, SubAt.zero _ _ _ _, Lib.hid (by simp), ⟨by simp, by simp; omega⟩, Blk.made (w.drewN n) _, (below_drewN (Below.refl _ w) n).alloc (Nat.le_refl _) _⟩
 case round =>
  obtain ⟨k, cr, o, rfl, rfl, hk, hcr, hA, Ho, hLo, hblk, hB⟩ := hrel
  by_cases hlt : k < l.length
  · obtain ⟨ad, rfl, _, q1⟩ := (h.below hB hP).at_ hlt
    obtain ⟨s, cr', hs, hcr', he⟩ := borrow_of (dg l k) (dg m k) cr (h.2.dgLt k) (h'.2.dgLt k) hcr
    have hok : k < o.length := by have := Ho.out; omega
    have q3 := hblk.cell hok
    have q4 := hblk.free k
    have hA' := hA.step hok he
    have hblk' := hblk.set k s
    have hLo' := hLo.set k s hs
    have hB' := hB.setCell (p := ⟨w.heap.size, k, none⟩) (Nat.le_refl _) (.int .u64 (s : Int))
    have Ho' : Hid ((o.set k s).length = l.length) := Lib.hid (by rw [List.length_set]; exact Ho.out)
    have hl64 := h.2.dgLt k
    have hm64 := h'.2.dgLt k
    by_cases hm : k < m.length
    · obtain ⟨ae, rfl, _, q2⟩ := (h'.below hB hP').at_ hm
      have hsub := fun w => sub64_at (dg l k) (dg m k) cr s cr' hcr hl64 hm64 hs he hcr' w
      clear he hA hblk hLo hB hl64 hm64
      go_wp2
      go_roundw
      case rel => exact ⟨k + 1, cr', o.set k s, by go_num, rfl, by omega, hcr', hA', Ho', hLo', hblk', hB'⟩
      case measure => simp [intOf]; omega
    · have hsub := fun w => sub64_at (dg l k) 0 cr s cr' hcr hl64 (by omega) hs (by rw [dg_none (by omega : m.length ≤ k)] at he; exact he) hcr' w
      simp only [Int.cast_ofNat_Int] at hsub
      clear he hA hblk hLo hB hl64 hm64
      go_wp2
      go_roundw
      case rel => exact ⟨k + 1, cr', o.set k s, by go_num, rfl, by omega, hcr', hA', Ho', hLo', hblk', hB'⟩
      case measure => simp [intOf]; omega
  · obtain rfl : k = l.length := by omega
    have hfin := hA.fin Ho.out hLo.1 rfl hml Hge.out
    rw [Hv.out] at hfin
    have hOB : OB wr w.heap.size (some ⟨w.heap.size, 0, none⟩) l.length o := OB.of_blk hblk (Nat.le_refl _) hLo (by have := Ho.out; omega) (by unfold maxLen; omega)
    have ht := trim_any _ _ _ _ _ hOB.rn
    have hOB' := hOB.trim
    rw [hfin, Ho.out] at ht
    rw [hfin] at hOB'
    have Ht := Lib.hid ht
    clear hA hblk hLo ht hfin hOB
    go_wp2_with fail
    refine Ht.out.mono ?_
    rintro e w1 ⟨rfl, rfl⟩
    go_wp2
    go_ret2
    exact ⟨_, _, rfl, hOB', hB⟩
end Go.Proofs.YtlaphnlolgokiaaGreatDoor

namespace Go.Proofs.YtlaphnlolgokiaaGreatDoor
open Go.RowKit

theorem mul64_at (x y hi lo : Nat) (hx : x < 18446744073709551616) (hy : y < 18446744073709551616) (hl : lo < 18446744073709551616) (he : lo + 18446744073709551616 * hi = x * y) (w : World) :
 Calls Tryz.prog 42 #[.int .u64 (x : Int), .int .u64 (y : Int)] w fun e w' => e = .returned (.tuple #[.int .u64 (hi : Int), .int .u64 (lo : Int)]) ∧ w = w' :=
 (Tryz.bits_Mul64 x y hx hy w).mono fun e w' ⟨h1, h2⟩ => by
  rw [← he, show (lo + 18446744073709551616 * hi) / 18446744073709551616 = hi by omega, show (lo + 18446744073709551616 * hi) % 18446744073709551616 = lo by omega] at h1
  exact ⟨h1, h2.symm⟩
theorem mul_round (x y u c : Nat) (hx : x < 18446744073709551616) (hy : y < 18446744073709551616) (hu : u < 18446744073709551616) (hc : c < 18446744073709551616) :
    ∃ hi lo s1 c1 s2 c2 : Nat, lo < 18446744073709551616 ∧ lo + 18446744073709551616 * hi = x * y ∧ s1 < 18446744073709551616 ∧ s1 + 18446744073709551616 * c1 = lo + u + 0 ∧ s2 < 18446744073709551616 ∧ s2 + 18446744073709551616 * c2 = s1 + c + 0 ∧
      c1 ≤ 1 ∧ c2 ≤ 1 ∧ hi + c1 < 18446744073709551616 ∧ hi + c1 + c2 < 18446744073709551616 ∧ s2 + 18446744073709551616 * (hi + c1 + c2) = x * y + u + c := by
  have hb := mul_bound hx hy hu hc
  refine ⟨x * y / 18446744073709551616, x * y % 18446744073709551616, (x * y % 18446744073709551616 + u) % 18446744073709551616, (x * y % 18446744073709551616 + u) / 18446744073709551616,
    ((x * y % 18446744073709551616 + u) % 18446744073709551616 + c) % 18446744073709551616, ((x * y % 18446744073709551616 + u) % 18446744073709551616 + c) / 18446744073709551616, ?_⟩
  generalize x * y = p at *
  omega

set_option maxRecDepth 100000 in
set_option maxHeartbeats 2000000 in
theorem mul_any (P P' : Nat → Prop) (A A' : Option Addr) (c c' : Nat) (a b : List Nat) (w : World) (h : RN w P A c a) (h' : RN w P' A' c' b) (hP : ∀ b, P b → b < w.heap.size) (hP' : ∀ b, P' b → b < w.heap.size) (hl : a.length < 100000) (hl' : b.length < 100000) :
 Calls Tryz.prog 18 #[.slice A a.length c, .slice A' b.length c'] w fun e w' => ∃ A1 c1, e = .returned (.slice A1 (digs 18446744073709551616 (val 18446744073709551616 a * val 18446744073709551616 b)).length c1) ∧
  OB w' w.heap.size A1 c1 (digs 18446744073709551616 (val 18446744073709551616 a * val 18446744073709551616 b)) ∧ Below w.heap.size w w' := by
 have ta := Lib.hid (trim_any P A c a w h)
 have tb := Lib.hid (trim_any P' A' c' b w h')
 have la := digs_length_le (B := 18446744073709551616) (by omega) h.2.1
 have lb := digs_length_le (B := 18446744073709551616) (by omega) h'.2.1
 replace h := h.trim
 replace h' := h'.trim
 generalize val 18446744073709551616 a = x at *
 generalize val 18446744073709551616 b = y at *
 have hx := val_digs (B := 18446744073709551616) (by omega) x
 have hy := val_digs (B := 18446744073709551616) (by omega) y
 generalize digs 18446744073709551616 x = l at *
 generalize digs 18446744073709551616 y = m at *
 have la' : l.length < 100000 := by omega
 have lb' : m.length < 100000 := by omega
 clear la lb hl hl'
 have Hx := Lib.hid hx
 have Hy := Lib.hid hy
 clear hx hy
 obtain ⟨h1, h2, h3⟩ := h.cap
 obtain ⟨g1, g2, g3⟩ := h'.cap
 have hmk := run_make_row' (P := Tryz.prog) 23 34 (.int .u64 0) 8 Tryz.underlying23 info64 rfl .i64 .i64 (l.length + m.length) (by omega) (by omega)
 simp only [Int.natCast_add] at hmk
 go_enter Tryz.func18, Tryz.ntmps18
 go_wp2_with fail
 refine ta.out.mono ?_
 rintro e w1 ⟨rfl, rfl⟩
 go_wp2_with fail
 refine tb.out.mono ?_
 rintro e w1 ⟨rfl, rfl⟩
 go_wp2
 clear ta tb
 go_loopw [26] (fun iv wr => ∃ (i : Nat) (o : List Nat), iv = .int .i64 (i : Int) ∧ i ≤ l.length ∧ RowAt 18446744073709551616 l m o i ∧ Lim o ∧ Blk wr w.heap.size o ∧ Below w.heap.size w wr) (fun iv _ => l.length - (intOf iv).toNat)
 case atStart => exact ⟨0, List.replicate (l.length + m.length) 0, rfl, by omega, RowAt.zero _ _ _, ⟨by simp, by simp; omega⟩, Blk.made w _, (Below.refl _ w).alloc (Nat.le_refl _) _⟩
 case round =>
  obtain ⟨i, o0, rfl, hi, hR, hLo, hblk, hB⟩ := hrel
  obtain ⟨wo, rfl⟩ : ∃ wo, wo = wr := ⟨_, rfl⟩
  by_cases hlt : i < l.length
  · obtain ⟨ad, rfl, _, q1⟩ := (h.below hB hP).at_ hlt
    have hxi := h.2.dgLt i
    go_wp2
    go_loopw [8, 33] (fun cv jv wr => ∃ (j cr : Nat) (o : List Nat), jv = .int .i64 (j : Int) ∧ cv = .int .u64 (cr : Int) ∧ j ≤ m.length ∧ cr < 18446744073709551616 ∧ MulAt 18446744073709551616 o0 m (dg l i) i o j cr ∧ Lim o ∧ Blk wr w.heap.size o ∧ Below w.heap.size w wr) (fun _ jv _ => m.length - (intOf jv).toNat)
    case atStart => exact ⟨0, 0, o0, rfl, rfl, by omega, by omega, MulAt.zero _ _ _ _ _, hLo, hblk, hB⟩
    case round =>
     clear q1 hB hblk hLo
     obtain ⟨j, cr, o, rfl, rfl, hj, hcr, hM, hLo, hblk, hB⟩ := hrel
     have hol : o.length = l.length + m.length := hM.1.trans hR.1
     by_cases hjt : j < m.length
     · obtain ⟨ae, rfl, _, q2⟩ := (h'.below hB hP').at_ hjt
       have hok : i + j < o.length := by omega
       have q3 := hblk.cell hok
       have q4 := hblk.free (i + j)
       obtain ⟨hi', lo, s1, c1, s2, c2, b1, b2, b3, b4, b5, b6, b7, b8, b9, b10, he⟩ := mul_round (dg l i) (dg m j) (dg o (i + j)) cr hxi (h'.2.dgLt j) (hLo.dgLt _) hcr
       have hmul := Lib.hid (fun w => mul64_at (dg l i) (dg m j) hi' lo hxi (h'.2.dgLt j) b1 b2 w)
       have hadd1 := fun w => add64_at lo (dg o (i + j)) 0 s1 c1 (by omega) b3 b4 w
       have hadd2 := fun w => add64_at s1 cr 0 s2 c2 (by omega) b5 b6 w
       simp only [Int.cast_ofNat_Int] at hadd1 hadd2
       have hM' := hM.step hok he
       have hblk' := hblk.set (i + j) s2
       have hLo' := hLo.set (i + j) s2 b5
       have hB' := hB.setCell (p := ⟨w.heap.size, i + j, none⟩) (Nat.le_refl _) (.int .u64 (s2 : Int))
       have k1 : (i : Int) + (j : Int) < (l.length : Int) + (m.length : Int) := by omega
       clear he b2 b4 b6 hM hblk hLo hB hok hol
       go_wp2_with fail
       refine (hmul.out _).mono ?_
       rintro e w1 ⟨rfl, rfl⟩
       go_wp2
       go_roundw
       case rel => exact ⟨j + 1, hi' + c1 + c2, o.set (i + j) s2, by go_num, by go_num, by omega, b10, hM', hLo', hblk', hB'⟩
       case measure => simp [intOf]; omega
     · obtain rfl : j = m.length := by omega
       have hR' := hR.step hlt hM
       have q3 := hblk.cell (i := i + m.length) (by omega)
       have q4 := hblk.free (i + m.length)
       have hblk' := hblk.set (i + m.length) cr
       have hLo' := hLo.set (i + m.length) cr hcr
       have hB' := hB.setCell (p := ⟨w.heap.size, i + m.length, none⟩) (Nat.le_refl _) (.int .u64 (cr : Int))
       have k1 : (i : Int) + (m.length : Int) < (l.length : Int) + (m.length : Int) := by omega
       clear hM hblk hLo hB hol
       go_wp2
       go_roundw
       case rel => exact ⟨i + 1, o.set (i + m.length) cr, by go_num, by omega, hR', hLo', hblk', hB'⟩
       case measure => simp [intOf]; omega
  · obtain rfl : i = l.length := by omega
    have hfin := hR.fin
    rw [Hx.out, Hy.out] at hfin
    have hol := hR.1
    have hOB : OB wo w.heap.size (some ⟨w.heap.size, 0, none⟩) (l.length + m.length) o0 := OB.of_blk hblk (Nat.le_refl _) hLo (by omega) (by unfold maxLen; omega)
    have ht := trim_any _ _ _ _ _ hOB.rn
    have hOB' := hOB.trim
    rw [hfin, hol] at ht
    rw [hfin] at hOB'
    have Ht := Lib.hid ht
    clear hblk hLo ht hfin hOB hR hol
    go_wp2_with fail
    refine Ht.out.mono ?_
    rintro e w1 ⟨rfl, rfl⟩
    go_wp2
    go_ret
    exact ⟨_, _, rfl, hOB', hB⟩
end Go.Proofs.YtlaphnlolgokiaaGreatDoor

namespace Go.Proofs.YtlaphnlolgokiaaGreatDoor
open Go.RowKit

theorem OB.recap {w : World} {base : Nat} {A : Option Addr} {c c' : Nat} {l : List Nat} (h : OB w base A c l) (hc : l.length ≤ c') (hc' : c' ≤ maxLen) : OB w base A c' l := ⟨h.1, hc, hc', h.2.2.2⟩
theorem OB.trim32 {w : World} {base : Nat} {A : Option Addr} {c : Nat} {l : List Nat} (h : OB w base A c l) (hl : Dig l) : OB w base A (digs 4294967296 (val 4294967296 l)).length (digs 4294967296 (val 4294967296 l)) := by
 obtain ⟨n, _, e⟩ := hl.cut
 rw [← e]
 have := h.take n
 exact this.recap (Nat.le_refl _) (by have := this.cap; unfold maxLen; omega)
theorem Dig.set {l : List Nat} (h : Dig l) (i x : Nat) (hx : x < 4294967296) : Dig (l.set i x) := set_lt h hx
theorem Dig.dgLt {l : List Nat} (h : Dig l) (i : Nat) : dg l i < 4294967296 := getD_lt (by omega) h i
theorem Dig.digs (x : Nat) : Dig (Go.Proofs.YtlaphnlolgokiaaGreatDoor.digs 4294967296 x) := digs_lt (by omega) x

def FromAt (l o : List Nat) (i : Nat) : Prop := o.length = 2 * l.length ∧ Dig o ∧ val 4294967296 (o.take (2 * i)) = val 18446744073709551616 (l.take i)
theorem pow_two_mul (i : Nat) : 4294967296 ^ (2 * i) = 18446744073709551616 ^ i := by
 rw [Nat.pow_mul]
theorem FromAt.zero (l : List Nat) : FromAt l (List.replicate (2 * l.length) 0) 0 := ⟨by simp, by intro x hx; simp at hx; omega, by simp⟩
theorem FromAt.step {l o : List Nat} {i p q : Nat} (h : FromAt l o i) (hi : i < l.length) (hp : p < 4294967296) (hq : q < 4294967296) (he : p + 4294967296 * q = dg l i) : FromAt l ((o.set (2 * i) p).set (2 * i + 1) q) (i + 1) := by
 obtain ⟨h1, h2, h3⟩ := h
 refine ⟨by simpa using h1, (h2.set _ _ hp).set _ _ hq, ?_⟩
 rw [show 2 * (i + 1) = 2 * i + 1 + 1 by omega, val_take_set _ (by simp; omega), val_take_set _ (by omega), h3, val_take_getD, ← he, Nat.pow_succ, pow_two_mul]
 simp only [Nat.mul_add, Nat.mul_assoc, Nat.add_assoc]
theorem FromAt.fin {l o : List Nat} (h : FromAt l o l.length) : val 4294967296 o = val 18446744073709551616 l := by
 obtain ⟨h1, _, h3⟩ := h
 rwa [List.take_of_length_le (by omega), List.take_length] at h3

set_option maxRecDepth 100000 in
set_option maxHeartbeats 1000000 in
theorem from_any (P : Nat → Prop) (A : Option Addr) (c : Nat) (l : List Nat) (w : World) (h : RN w P A c l) (hP : ∀ b, P b → b < w.heap.size) (hl : l.length < 100000) :
 Calls Tryz.prog 31 #[.slice A l.length c] w fun e w' => ∃ A1 c1, e = .returned (.slice A1 (digs 4294967296 (val 18446744073709551616 l)).length c1) ∧
  OB w' w.heap.size A1 c1 (digs 4294967296 (val 18446744073709551616 l)) ∧ Below w.heap.size w w' := by
 obtain ⟨h1, h2, h3⟩ := h.cap
 have hmk := run_make_row' (P := Tryz.prog) 30 34 (.int .u64 0) 8 Tryz.underlying30 info64 rfl .i64 .i64 (2 * l.length) (by omega) (by omega)
 simp only [Int.natCast_mul, Int.cast_ofNat_Int] at hmk
 go_enter Tryz.func31, Tryz.ntmps31
 go_wp2
 go_loopw [4] (fun iv wr => ∃ (i : Nat) (o : List Nat), iv = .int .i64 (i : Int) ∧ i ≤ l.length ∧ FromAt l o i ∧ Lim o ∧ Blk wr w.heap.size o ∧ Below w.heap.size w wr) (fun iv _ => l.length - (intOf iv).toNat)
 case atStart => exact ⟨0, List.replicate (2 * l.length) 0, rfl, by omega, FromAt.zero _, ⟨by simp, by simp; omega⟩, Blk.made w _, (Below.refl _ w).alloc (Nat.le_refl _) _⟩
 case round =>
  obtain ⟨i, o, rfl, hi, hF, hLo, hblk, hB⟩ := hrel
  by_cases hlt : i < l.length
  · obtain ⟨ad, rfl, had, q1⟩ := (h.below hB hP).at_ hlt
    have hol := hF.1
    have hxi := h.2.dgLt i
    obtain ⟨p, q, hp, hq, he, e1, e2⟩ : ∃ p q : Nat, p < 4294967296 ∧ q < 4294967296 ∧ p + 4294967296 * q = dg l i ∧ (dg l i : Int) % 4294967296 = (p : Int) ∧ (dg l i : Int) / 4294967296 = (q : Int) :=
     ⟨dg l i % 4294967296, dg l i / 4294967296, by omega, by omega, by omega, by omega, by omega⟩
    have q3 := hblk.cell (i := 2 * i) (by omega)
    have q4 := hblk.free (2 * i)
    have hblk1 := hblk.set (2 * i) p
    have q5 := hblk1.cell (i := 2 * i + 1) (by simp; omega)
    have q6 := hblk1.free (2 * i + 1)
    have hblk2 := hblk1.set (2 * i + 1) q
    have hLo' := (hLo.set (2 * i) p (by omega)).set (2 * i + 1) q (by omega)
    have hB1 := hB.setCell (p := ⟨w.heap.size, 2 * i, none⟩) (Nat.le_refl _) (.int .u64 (p : Int))
    have q7 := ((h.below hB1 hP).cells i hlt)
    have hB2 := hB1.setCell (p := ⟨w.heap.size, 2 * i + 1, none⟩) (Nat.le_refl _) (.int .u64 (q : Int))
    have hF' := hF.step hlt hp hq he
    have k1 : (2 : Int) * (i : Int) < 2 * (l.length : Int) := by omega
    have k2 : (2 : Int) * (i : Int) + 1 < 2 * (l.length : Int) := by omega
    clear hF hLo hblk hB hblk1 hB1 he hol hp hq
    go_wp2
    go_roundw
    case rel => exact ⟨i + 1, (o.set (2 * i) p).set (2 * i + 1) q, by go_num, by omega, hF', hLo', hblk2, hB2⟩
    case measure => simp [intOf]; omega
  · obtain rfl : i = l.length := by omega
    have hfin := hF.fin
    have hOB : OB wr w.heap.size (some ⟨w.heap.size, 0, none⟩) (2 * l.length) o := OB.of_blk hblk (Nat.le_refl _) hLo (by have := hF.1; omega) (by unfold maxLen; omega)
    have ht := refTrim_any _ _ _ _ _ hOB.rn hF.2.1
    have hOB' := hOB.trim32 hF.2.1
    rw [hfin, hF.1] at ht
    rw [hfin] at hOB'
    have Ht := Lib.hid ht
    clear hblk hLo ht hfin hOB hF
    go_wp2_with fail
    refine Ht.out.mono ?_
    rintro e w1 ⟨rfl, rfl⟩
    go_wp2
    go_ret
    exact ⟨_, _, rfl, hOB', hB⟩

set_option maxHeartbeats 400000 in
theorem refOf_any (x : Nat) (w : World) (hx : x < 18446744073709551616) :
 Calls Tryz.prog 24 #[.int .u64 (x : Int)] w fun e w' => ∃ A' c', e = .returned (.slice A' (digs 4294967296 x).length c') ∧ OB w' w.heap.size A' c' (digs 4294967296 x) ∧ Below w.heap.size w w' := by
 have hv : val 18446744073709551616 [x] = x := by simp
 have hm := fun P A c w h hP => from_any P A c [x] w h hP (by simp)
 rw [hv] at hm
 have Hm := Lib.hid hm
 clear hm hv
 go_enter Tryz.func24, Tryz.ntmps24
 go_wp2_with fail
 refine (Hm.out (In w.heap.size (w.heap.size + 1)) _ _ _ ⟨RS.fresh #[.int .u64 (x : Int)] 34 1 1 rfl (by unfold maxLen; omega) ⟨Nat.le_refl _, by omega⟩, by simpa [Lim] using hx⟩ (fun b hb => by have := hb.2; simp; omega)).mono ?_
 rintro e w1 ⟨A', c', rfl, hO, hB⟩
 go_wp2
 go_ret
 exact ⟨A', c', rfl, hO.mono (by simp), ((Below.refl _ w).alloc (Nat.le_refl _) _).trans (hB.mono (by simp))⟩

theorem dg_cons_zero (a : Nat) (l : List Nat) : dg (a :: l) 0 = a := rfl
theorem take_succ_dg {l : List Nat} {k : Nat} (h : k < l.length) : l.take (k + 1) = l.take k ++ [dg l k] := by
 rw [List.take_succ_eq_append_getElem h, dg, getD_eq' h]

theorem own_block_le {w : World} {base n size : Nat} {e : TypeId} {v : Value} {xs : List Value} (h : w.ownsRow base e size v n xs) {j : Nat} (hj : v.ownBlock = some j) : base ≤ j := by
 obtain ⟨h0, ⟨rfl, _⟩ | ⟨g, cap, cur, rfl, hg, _⟩⟩ := h
 · simp [Value.ownBlock] at hj
 · simp [Value.ownBlock] at hj
   omega

end Go.Proofs.YtlaphnlolgokiaaGreatDoor

namespace Go.Proofs.YtlaphnlolgokiaaGreatDoor
open Go.RowKit

def SameTo (l m : List Nat) (k : Nat) : Prop := ∀ j, j < k → dg l j = dg m j
theorem SameTo.step {l m : List Nat} {k : Nat} (h : SameTo l m k) (he : dg l k = dg m k) : SameTo l m (k + 1) := fun j hj => by
 rcases Nat.lt_or_ge j k with h1 | h1
 · exact h j h1
 · obtain rfl : j = k := by omega
   exact he
theorem SameTo.fin {l m : List Nat} (h : SameTo l m l.length) (hl : l.length = m.length) : l = m := by
 apply List.ext_getElem hl
 intro i h1 h2
 have := h i h1
 rwa [dg, dg, getD_eq' h1, getD_eq' h2] at this

def RL (w : World) (P : Nat → Prop) (A : Option Addr) (c : Nat) (l : List Nat) : Prop := RS w P 1 A l.length c (nts l) ∧ (∀ x ∈ l, x < 18446744073709551616) ∧ l.length ≤ 17592186044416
theorem RL.take {w : World} {P : Nat → Prop} {A : Option Addr} {c : Nat} {l : List Nat} (h : RL w P A c l) {n : Nat} (hn : n ≤ 1000000) (hn' : n ≤ l.length) : RN w P A c (l.take n) := by
 have := h.1.pre hn'
 rw [Nat.mul_one, nts_take] at this
 refine ⟨by rw [List.length_take, Nat.min_eq_left hn']; exact this, fun x hx => h.2.1 x (List.mem_of_mem_take hx), by rw [List.length_take]; omega⟩
theorem RL.below {w w' : World} {P : Nat → Prop} {A : Option Addr} {c B : Nat} {l : List Nat} (h : RL w P A c l) (hb : Below B w w') (hB : ∀ b, P b → b < B) : RL w' P A c l := ⟨h.1.below hb hB, h.2⟩

set_option maxHeartbeats 400000 in
theorem cut_any (P : Nat → Prop) (A : Option Addr) (c : Nat) (l : List Nat) (n : Nat) (w : World) (h : RL w P A c l) (hn : n ≤ 100000) :
 Calls Tryz.prog 14 #[.slice A l.length c, .int .i64 (n : Int)] w fun e w' => ∃ A1 c1, e = .returned (.slice A1 (l.take n).length c1) ∧ OB w' w.heap.size A1 c1 (l.take n) ∧ Below w.heap.size w w' := by
 obtain ⟨i0, hi, hz0, hz1, hz2⟩ := info_parts info64
 obtain ⟨⟨h1, h2, _⟩, h4, h5⟩ := id h
 unfold maxLen at h2
 by_cases hl : l.length < n
 · have ht : l.take n = l := List.take_of_length_le (by omega)
   have hR : RN w P A c l := ⟨h.1, h4, by omega⟩
   rw [ht]
   have hlB : decide (l.length < n) = true := by simpa using hl
   clear ht h4
   go_enter Tryz.func14, Tryz.ntmps14
   go_wp2_with (at_builtin; refine wpList_append_rs _ rfl _ _ 23 rfl w.heap.size 34 i0 (.int .u64 0) 1 8 Tryz.underlying23 hi hz0 hz1 hz2 rfl (by decide) _ 0 [] rfl (World.ownsRow_nil _ _ _ _) P A l.length c (nts l) rfl hR.1 (oneCell_nts l) l.length (by omega) (by unfold maxLen; omega) (by omega) (Nat.le_refl _) ?_)
   intro A' c' w1 hown hgrow hblk
   go_wp2
   go_ret
   exact ⟨A', c', rfl, OB.of_own (by simpa using hown) hR.2, (Below.refl _ w).grown hgrow (Nat.le_refl _) (by intro k hk; simp [Value.ownBlock] at hk)⟩
 · have hR := h.take (n := n) (by omega) (by omega)
   have hlen : (l.take n).length = n := by rw [List.length_take]; omega
   have hlB : decide (l.length < n) = false := by simpa using hl
   have k1 : (n : Int) ≤ (c : Int) := by omega
   generalize l.take n = d at *
   subst hlen
   clear h4 hl
   go_enter Tryz.func14, Tryz.ntmps14
   go_wp2_with (at_builtin; refine wpList_append_rs _ rfl _ _ 23 rfl w.heap.size 34 i0 (.int .u64 0) 1 8 Tryz.underlying23 hi hz0 hz1 hz2 rfl (by decide) _ 0 [] rfl (World.ownsRow_nil _ _ _ _) P A d.length c (nts d) rfl hR.1 (oneCell_nts d) d.length (by omega) (by unfold maxLen; omega) (by omega) (Nat.le_refl _) ?_)
   intro A' c' w1 hown hgrow hblk
   go_wp2
   go_ret
   exact ⟨A', c', rfl, OB.of_own (by simpa using hown) hR.2, (Below.refl _ w).grown hgrow (Nat.le_refl _) (by intro k hk; simp [Value.ownBlock] at hk)⟩
end Go.Proofs.YtlaphnlolgokiaaGreatDoor

namespace Go.Proofs.YtlaphnlolgokiaaGreatDoor
open Go.RowKit

theorem RN.one (w : World) (x : Nat) (hx : x < 18446744073709551616) : RN (w.alloc (.cells #[.int .u64 (x : Int)] 34)) (In w.heap.size (w.heap.size + 1)) (some ⟨w.heap.size, 0, none⟩) 1 [x] :=
 ⟨RS.fresh #[.int .u64 (x : Int)] 34 1 1 rfl (by unfold maxLen; omega) ⟨Nat.le_refl _, by omega⟩, by simpa [Lim] using hx⟩
abbrev RU (w : World) (A : Option Addr) (c : Nat) (l : List Nat) : Prop := RN w (fun b => b < w.heap.size) A c l
theorem RN.up {w w' : World} {A : Option Addr} {c : Nat} {l : List Nat} (h : RU w A c l) (hB : Below w.heap.size w w') : RU w' A c l :=
 (h.below hB fun _ hb => hb).mono fun _ hb => Nat.lt_of_lt_of_le hb hB.size
theorem OB.ru {w : World} {base : Nat} {A : Option Addr} {c : Nat} {l : List Nat} (h : OB w base A c l) : RU w A c l := h.rn.mono fun _ hb => hb.2
theorem RN.ud {w : World} {A : Option Addr} {c : Nat} {l : List Nat} (h : RU w A c l) (n : Nat) : RU (w.drewN n) A c l := h
theorem digs32_len {a : List Nat} {n : Nat} (h : Lim a) (hn : a.length ≤ n) : (digs 4294967296 (val 18446744073709551616 a)).length ≤ 2 * n := by
 apply digs_length_of_lt (by omega)
 rw [pow_two_mul]
 exact Nat.lt_of_lt_of_le (val_lt h.1) (Nat.pow_le_pow_right (by omega) hn)
theorem lt_self {w : World} : ∀ b, b < w.heap.size → b < w.heap.size := fun _ h => h
end Go.Proofs.YtlaphnlolgokiaaGreatDoor

namespace Go.Proofs.YtlaphnlolgokiaaGreatDoor
open Go.ChangeShapes Go.WideShapes Go.ChangeAt Go.RowKit Go.Deep Go.Joins

section
variable {H : Type} {enc : TypeId × Value → H} {w : World}
theorem cells64 : Tryz.prog.cellsOf 34 = 1 := by kernel_rfl
theorem bytes64 : Tryz.prog.bytesOf 34 = 8 := by kernel_rfl

def Fits (t : TypeId) (d : DataW H) : Prop := ∀ k ∈ DataW.weights Tryz.prog t d, k ≤ reachBytes

theorem open_nats {fuel : Nat} {v : Value} {x : DataW H × List MemPlace} (h : DataW.trod enc Tryz.prog w 0 (fun _ => true) true fuel 23 [v] = some x) (hw : Fits 23 x.1) :
 ∃ A c l, v = .slice A l.length c ∧ RL w (fun b => b < w.heap.size) A c l := by
 rcases open_ints Tryz.underlying23 Tryz.underlying34 cells64 h with ⟨hcs, _⟩ | ⟨a, len, cap, zs, hcs, _, hl, hm, hz, hx, hcell, hwz⟩
 · simp at hcs
   exact ⟨none, 0, [], by simpa using hcs, RS.nil_ _ _ _, by simp, by simp⟩
 · simp at hcs hz
   have hb : zs.length * 8 ≤ reachBytes := by
    subst hx
    have := hw (((lits (H := H) .u64 (zs.take len)).length + (lits (H := H) .u64 (zs.drop len)).length) * 8) (by simp [DataW.weights, Tryz.underlying23, bytes64])
    simp [lits] at this
    omega
   unfold reachBytes at hb
   have hwf : ∀ i (hi : i < zs.length), 0 ≤ zs[i] ∧ zs[i] < 18446744073709551616 := fun i hi => by
    have := bounds_u64 (hwz _ (List.getElem_mem hi))
    omega
   refine ⟨some a, cap, (zs.take len).map Int.toNat, ?_, ⟨by simp; omega, hm, by simp [nts], fun hn => ⟨a, rfl, ?_, fun j u hu => ?_⟩⟩, ?_, by simp; omega⟩
   · rw [hcs]; simp; omega
   · have h0 := hcell 0 (by simp at hn; omega)
     have := World.block_lt_of_cell? w _ h0
     rwa [block_of_add] at this
   · have hj : j < len := by
      have := (List.getElem?_eq_some_iff.1 hu).1
      simp [nts] at this
      omega
     have hjz : j < zs.length := by omega
     rw [hcell j hjz]
     have := hwf j hjz
     simp [nts, hj, List.getElem?_eq_getElem hjz] at hu
     rw [← hu]
     simp [List.getD, List.getElem?_eq_getElem hjz]
     omega
   · intro b hb
     obtain ⟨z, hz, rfl⟩ := List.mem_map.1 hb
     obtain ⟨i, hi, rfl⟩ := List.getElem_of_mem (List.mem_of_mem_take hz)
     have := hwf i hi
     omega
end
end Go.Proofs.YtlaphnlolgokiaaGreatDoor

namespace Go.Proofs.YtlaphnlolgokiaaGreatDoor

def nbits (x : Nat) : Nat := if x = 0 then 0 else x.log2 + 1
theorem nbits_zero : nbits 0 = 0 := rfl
theorem nbits_eq {x k : Nat} (h1 : 2 ^ k ≤ x) (h2 : x < 2 ^ (k + 1)) : nbits x = k + 1 := by
 have hx : x ≠ 0 := by have := Nat.pow_pos (n := k) (show 0 < 2 by omega); omega
 have h3 : k ≤ x.log2 := (Nat.le_log2 hx).2 h1
 have h4 : x.log2 < k + 1 := (Nat.log2_lt hx).2 h2
 simp [nbits, hx]
 omega
theorem nbits_bounds {x : Nat} (hx : x ≠ 0) : 2 ^ (nbits x - 1) ≤ x ∧ x < 2 ^ nbits x ∧ 1 ≤ nbits x := by
 simp only [nbits, hx, if_false, Nat.add_sub_cancel]
 exact ⟨Nat.log2_self_le hx, Nat.lt_log2_self, by omega⟩
theorem nbits_le {x k : Nat} (h : x < 2 ^ k) : nbits x ≤ k := by
 rcases Nat.eq_zero_or_pos x with rfl | h0
 · simp [nbits]
 · obtain ⟨h1, h2, h3⟩ := nbits_bounds (Nat.pos_iff_ne_zero.1 h0)
   rcases Nat.lt_or_ge k (nbits x) with h4 | h4
   · have : 2 ^ k ≤ 2 ^ (nbits x - 1) := Nat.pow_le_pow_right (by omega) (by omega)
     omega
   · exact h4
theorem lt_of_nbits {x k : Nat} (h : nbits x ≤ k) : x < 2 ^ k := by
 rcases Nat.eq_zero_or_pos x with rfl | h0
 · exact Nat.pow_pos (by omega)
 · obtain ⟨_, h2, _⟩ := nbits_bounds (Nat.pos_iff_ne_zero.1 h0)
   exact Nat.lt_of_lt_of_le h2 (Nat.pow_le_pow_right (by omega) h)
theorem nbits_top {m : Nat} (hm : 0 < m) {x : Nat} (hx : 0 < x) {k : Nat} (hk : 0 < k) (h1 : 2 ^ (k - 1) ≤ dg (digs (2 ^ m) x) ((digs (2 ^ m) x).length - 1)) (h2 : dg (digs (2 ^ m) x) ((digs (2 ^ m) x).length - 1) < 2 ^ k) :
 nbits x = m * ((digs (2 ^ m) x).length - 1) + k := by
 have hB : 2 ≤ 2 ^ m := by
  have : 2 ^ 1 ≤ 2 ^ m := Nat.pow_le_pow_right (by omega) hm
  simpa using this
 have hv := val_digs hB x
 have hlt := digs_lt hB x
 have hne : 0 < (digs (2 ^ m) x).length := by rw [digs_pos hB hx]; simp
 generalize digs (2 ^ m) x = l at *
 have h3 := val_take_getD (2 ^ m) l (l.length - 1)
 rw [show l.length - 1 + 1 = l.length by omega, List.take_length, hv] at h3
 have h4 := val_lt (B := 2 ^ m) (l := l.take (l.length - 1)) fun y hy => hlt y (List.mem_of_mem_take hy)
 rw [List.length_take, Nat.min_eq_left (by omega)] at h4
 have h5 : (2 ^ m) ^ (l.length - 1) = 2 ^ (m * (l.length - 1)) := by rw [Nat.pow_mul]
 rw [h5] at h3 h4
 generalize m * (l.length - 1) = e at *
 generalize dg l (l.length - 1) = t at *
 obtain ⟨j, rfl⟩ : ∃ j, k = j + 1 := ⟨k - 1, by omega⟩
 rw [Nat.add_sub_cancel] at h1
 have h6 : 2 ^ e * 2 ^ j ≤ 2 ^ e * t := Nat.mul_le_mul_left _ h1
 have h7 : 2 ^ e * (t + 1) ≤ 2 ^ e * 2 ^ (j + 1) := Nat.mul_le_mul_left _ h2
 rw [← Nat.pow_add] at h6 h7
 rw [Nat.mul_add] at h7
 exact nbits_eq (k := e + j) (by omega) (by rw [show e + j + 1 = e + (j + 1) by omega]; omega)
theorem val_shift {m : Nat} (l : List Nat) (hl : ∀ x ∈ l, x < 2 ^ m) (k j : Nat) (hj : j ≤ m) : ∃ r, val (2 ^ m) l / 2 ^ (m * k + j) = dg l k / 2 ^ j + 2 ^ (m - j) * r := by
 refine ⟨val (2 ^ m) (l.drop (k + 1)), ?_⟩
 have h1 : val (2 ^ m) l = val (2 ^ m) (l.take k) + (2 ^ m) ^ k * (dg l k + 2 ^ m * val (2 ^ m) (l.drop (k + 1))) := by
  rcases Nat.lt_or_ge k l.length with h | h
  · have := val_take_drop (2 ^ m) l (Nat.le_of_lt h)
    rw [this, List.drop_eq_getElem_cons h, val_cons, dg, getD_eq' h]
  · rw [List.take_of_length_le h, List.drop_eq_nil_of_le (by omega), dg, List.getD_eq_getElem?_getD, List.getElem?_eq_none h]
    simp
 have h2 : val (2 ^ m) (l.take k) < (2 ^ m) ^ k := by
  have h3 := val_lt (B := 2 ^ m) (l := l.take k) fun y hy => hl y (List.mem_of_mem_take hy)
  refine Nat.lt_of_lt_of_le h3 (Nat.pow_le_pow_right (Nat.pow_pos (by omega)) ?_)
  rw [List.length_take]; omega
 rw [Nat.pow_add, Nat.pow_mul, ← Nat.div_div_eq_div_mul, h1, Nat.add_mul_div_left _ _ (Nat.pow_pos (Nat.pow_pos (by omega))), Nat.div_eq_of_lt h2, Nat.zero_add]
 have e : 2 ^ m = 2 ^ j * 2 ^ (m - j) := by rw [← Nat.pow_add, show j + (m - j) = m by omega]
 generalize hv : val (2 ^ m) (l.drop (k + 1)) = v
 rw [e, Nat.mul_assoc, Nat.add_mul_div_left _ _ (Nat.pow_pos (by omega))]
theorem val_bit {m : Nat} (l : List Nat) (hl : ∀ x ∈ l, x < 2 ^ m) (k j : Nat) (hj : j < m) : val (2 ^ m) l / 2 ^ (m * k + j) % 2 = dg l k / 2 ^ j % 2 := by
 obtain ⟨r, hr⟩ := val_shift l hl k j (by omega)
 rw [hr, show m - j = (m - j - 1) + 1 by omega, Nat.pow_succ, Nat.mul_right_comm, Nat.add_mul_mod_self_right]
def bytesOf (x n : Nat) : List Nat := (List.range n).map fun i => x / 2 ^ (8 * (n - 1 - i)) % 256
theorem bytesOf_length (x n : Nat) : (bytesOf x n).length = n := by simp [bytesOf]
end Go.Proofs.YtlaphnlolgokiaaGreatDoor
