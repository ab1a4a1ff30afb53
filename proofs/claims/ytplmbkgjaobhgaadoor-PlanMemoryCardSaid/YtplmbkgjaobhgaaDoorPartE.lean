/-
  How many slots a word of 64 has: by bytes.
  Sets, batches, plans: the small functions answer what they are to answer.
  Batches that fit: the program's function answers what the reference's does.
  Moves: the program's function answers what the reference's does.
  Plans: one step, its message, what it costs.
  Plans: the message's items.
  What a step's message costs.
  The names that a step gives: from the old Fresh on, each once.
  Who gets its new keys: what the law's helpers are to answer.
  What each function computes, printed by a program of my own (wip/tool) out of its run.
  Who stays and who joins gets all of its new keys.
  The law's helpers answer so; the law on who gets its new keys.
  A step's keys: which are new, which are advanced ones; what can be derived of keys and boxes.
  Who left derives none of the new keys; who joins derives none of the old ones.
  What the last functions of plans are to answer.
  What each function computes, printed by a program of my own (wip/tool) out of its run.
  Plans: when a batch is refused; the nodes above seats.
  What each function computes, printed by a program of my own (wip/tool) out of its run.
  Plans: what is handed in stays, what is answered is new.
  The program computes so: printed by a program of my own (wip/tool).
  A range over an iterator that keeps a box of its own: what the loop's body must keep.
  The n least free slots: the program's function that ranges over an iterator of its own.
  The program computes so: printed by a program of my own (wip/tool).
  The law on who gets its new keys.
  The program computes so: printed by a program of my own (wip/tool).
  The program computes so: printed by a program of my own (wip/tool).
  The program computes so: printed by a program of my own (wip/tool).
  The program computes so: printed by a program of my own (wip/tool).
  What the form's own reach gives of the arguments of laws that make a longer slice of them.
  No conditions. Own text, for the claims about coterie.
-/
import Derived.RangeFuncMany
import Derived.RangeFuncBox
import Derived.OwnWalkIn
import Derived.RangeFuncKeeps
import Derived.RangeFuncLeaves
import Derived.RangeFuncCalls
import Derived.Shelf.Abstract
import Derived.WalkKit
import Derived.TacticsInMore
import Derived.LoopNIn
import Derived.LoopIn
import Derived.Maps.AppendAt
import Derived.RegionIn
import Derived.Shelf.RegionOpen
import Derived.Test.YtplmbkgjaobhgaaDoorPartD

section
namespace Go.Co.N
open Go Go.Co

/-- The same byte k times. -/
def rep (c : Nat) : Nat → Nat
  | 0 => 0
  | k + 1 => c + 256 * rep c k
/-- A function on each byte. -/
def mapB (g : Nat → Nat) : Nat → Nat → Nat
  | 0, _ => 0
  | k + 1, x => g (x % 256) + 256 * mapB g k (x / 256)
theorem and_split (x c r : Nat) (hc : c < 256) : x &&& (c + 256 * r) = ((x % 256) &&& c) + 256 * ((x / 256) &&& r) := by
  have h1 := @Nat.and_mod_two_pow x (c + 256 * r) 8
  have h2 := @Nat.and_div_two_pow x (c + 256 * r) 8
  have e1 : (c + 256 * r) % 2 ^ 8 = c := by omega
  have e2 : (c + 256 * r) / 2 ^ 8 = r := by omega
  rw [e1] at h1; rw [e2] at h2
  have e3 : x % 2 ^ 8 = x % 256 := by omega
  have e4 : x / 2 ^ 8 = x / 256 := by omega
  rw [e3] at h1; rw [e4] at h2
  omega
theorem low85 : ∀ z, z < 256 → z &&& 85 = (z % 128) &&& 85 := by decide +kernel
theorem low51 : ∀ z, z < 256 → z &&& 51 = (z % 64) &&& 51 := by decide +kernel
def g1 (b : Nat) : Nat := ((b / 2) &&& 85) + (b &&& 85)
def g2 (b : Nat) : Nat := ((b / 4) &&& 51) + (b &&& 51)
theorem step1 : ∀ k x, ((x / 2) &&& rep 85 k) + (x &&& rep 85 k) = mapB g1 k x
  | 0, x => by simp [rep, mapB]
  | k + 1, x => by
    have ih := step1 k (x / 256)
    simp only [rep, mapB]
    rw [and_split (x / 2) 85 _ (by omega), and_split x 85 _ (by omega), low85 (x / 2 % 256) (by omega), ← ih]
    have e1 : x / 2 % 256 % 128 = x % 256 / 2 := by omega
    have e2 : x / 2 / 256 = x / 256 / 2 := by omega
    rw [e1, e2]
    unfold g1
    omega
theorem step2 : ∀ k x, ((x / 4) &&& rep 51 k) + (x &&& rep 51 k) = mapB g2 k x
  | 0, x => by simp [rep, mapB]
  | k + 1, x => by
    have ih := step2 k (x / 256)
    simp only [rep, mapB]
    rw [and_split (x / 4) 51 _ (by omega), and_split x 51 _ (by omega), low51 (x / 4 % 256) (by omega), ← ih]
    have e1 : x / 4 % 256 % 64 = x % 256 / 4 := by omega
    have e2 : x / 4 / 256 = x / 256 / 4 := by omega
    rw [e1, e2]
    unfold g2
    omega
theorem mapB_comp {f g : Nat → Nat} (hf : ∀ b, b < 256 → f b < 256) : ∀ k x, mapB g k (mapB f k x) = mapB (fun b => g (f b)) k x
  | 0, _ => rfl
  | k + 1, x => by
    simp only [mapB]
    have h := hf (x % 256) (by omega)
    rw [show (f (x % 256) + 256 * mapB f k (x / 256)) % 256 = f (x % 256) by omega, show (f (x % 256) + 256 * mapB f k (x / 256)) / 256 = mapB f k (x / 256) by omega, mapB_comp hf k]
/-- Small halves. -/
def halves (f : Nat → Nat) : Prop := ∀ b, b < 256 → f b % 16 ≤ 4 ∧ f b / 16 ≤ 4
theorem mapB_low {f : Nat → Nat} (hf : halves f) : ∀ k x, mapB f k x % 16 ≤ 4
  | 0, _ => by simp [mapB]
  | k + 1, x => by
    have := (hf (x % 256) (by omega)).1
    simp only [mapB]; omega
def g3 (b : Nat) : Nat := (b / 16 + b) % 16
theorem step3 {f : Nat → Nat} (hf : halves f) : ∀ k x, (mapB f k x / 16 + mapB f k x) &&& rep 15 k = mapB (fun b => g3 (f b)) k x
  | 0, x => by simp [rep, mapB]
  | k + 1, x => by
    have ih := step3 hf k (x / 256)
    obtain ⟨h1, h2⟩ := hf (x % 256) (by omega)
    have h3 := mapB_low hf k (x / 256)
    simp only [rep, mapB]
    rw [and_split _ 15 _ (by omega), ← ih]
    generalize f (x % 256) = A at *
    generalize mapB f k (x / 256) = Y at *
    have e1 : ((A + 256 * Y) / 16 + (A + 256 * Y)) % 256 = A / 16 + 16 * (Y % 16) + A := by omega
    have e2 : ((A + 256 * Y) / 16 + (A + 256 * Y)) / 256 = Y / 16 + Y := by omega
    rw [e1, e2, show (15 : Nat) = 2 ^ 4 - 1 from rfl, Nat.and_two_pow_sub_one_eq_mod]
    unfold g3
    omega
theorem g1_lt : ∀ b, b < 256 → g1 b < 256 := by decide +kernel
theorem g2_halves : ∀ b, b < 256 → g2 (g1 b) % 16 ≤ 4 ∧ g2 (g1 b) / 16 ≤ 4 := by decide +kernel
theorem g3_bits : ∀ b, b < 256 → g3 (g2 (g1 b)) = bits 8 b := by decide +kernel
theorem mapB_congr {f g : Nat → Nat} (h : ∀ b, b < 256 → f b = g b) : ∀ k x, mapB f k x = mapB g k x
  | 0, _ => rfl
  | k + 1, x => by simp only [mapB]; rw [h _ (by omega), mapB_congr h k]
theorem mapB_bits : ∀ k x, mapB (bits 8) (k + 1) x = bits 8 x + 256 * mapB (bits 8) k (x / 256)
  | k, x => by
    simp only [mapB]
    have := bits_mod 8 x
    rw [show (2 : Nat) ^ 8 = 256 from rfl] at this
    rw [this]
theorem mapB_lt {f : Nat → Nat} (hf : ∀ b, b < 256 → f b < 256) : ∀ k x, mapB f k x < 256 ^ k
  | 0, _ => by simp [mapB]
  | k + 1, x => by
    have h1 := hf (x % 256) (by omega)
    have h2 := mapB_lt hf k (x / 256)
    simp only [mapB, Nat.pow_succ]
    omega
theorem dig {y c r : Nat} (h : y = c + 256 * r) (hc : c < 256) : y / 256 = r := by omega
theorem sumD {R0 R1 R2 c0 c1 : Nat} (h0 : R0 = c0 + 256 * R1) (h1 : R1 = c1 + 256 * R2) : R0 + R1 = (c0 + c1) + 256 * (R1 + R2) := by omega
theorem bnd {R c r k K : Nat} (h : R = c + 256 * r) (hc : c ≤ 8) (hr : r ≤ k) (hK : 8 + 256 * k = K) : R ≤ K := by omega
theorem dig2 {y c d r : Nat} (h : y = c + 256 * (d + 256 * r)) (hc : c < 256) (hd : d < 256) : y / 65536 = r := by
  rw [show 65536 = 256 * 256 from rfl, ← Nat.div_div_eq_div_mul, dig h hc, dig rfl hd]
theorem dig4 {y a b c d r : Nat} (h : y = a + 256 * (b + 256 * (c + 256 * (d + 256 * r)))) (ha : a < 256) (hb : b < 256) (hc : c < 256) (hd : d < 256) : y / 4294967296 = r := by
  rw [show 4294967296 = 65536 * 65536 from rfl, ← Nat.div_div_eq_div_mul, dig2 h ha hb, dig2 rfl hc hd]
theorem sumS {A B C a b c : Nat} (hA : A = a + 256 * B) (hC : C = b + 256 * c) : A + C = (a + b) + 256 * (B + c) := by omega
theorem lastD {S0 S2 S4 S6 S1 S3 S5 S7 a b c d : Nat} (h0 : S0 = a + 256 * S1) (h2 : S2 = b + 256 * S3) (h4 : S4 = c + 256 * S5) (h6 : S6 = d + 256 * S7) (h : a + b + c + d < 128) : (S0 + S2 + (S4 + S6)) % 128 = a + b + c + d := by omega
theorem four {a b c d : Nat} (h1 : a ≤ 8) (h2 : b ≤ 8) (h3 : c ≤ 8) (h4 : d ≤ 8) : a + b + (c + d) < 256 := by omega
theorem eight {a b c d e f g h : Nat} (h1 : a ≤ 8) (h2 : b ≤ 8) (h3 : c ≤ 8) (h4 : d ≤ 8) (h5 : e ≤ 8) (h6 : f ≤ 8) (h7 : g ≤ 8) (h8 : h ≤ 8) : a + b + (c + d) + (e + f) + (g + h) < 128 := by omega
theorem two8 {a b : Nat} (h1 : a ≤ 8) (h2 : b ≤ 8) : a + b < 256 := by omega
theorem fold8d {c0 c1 c2 c3 c4 c5 c6 c7 R0 R1 R2 R3 R4 R5 R6 R7 : Nat} (h7 : R7 = c7) (h6 : R6 = c6 + 256 * R7) (h5 : R5 = c5 + 256 * R6) (h4 : R4 = c4 + 256 * R5) (h3 : R3 = c3 + 256 * R4) (h2 : R2 = c2 + 256 * R3) (h1 : R1 = c1 + 256 * R2) (h0 : R0 = c0 + 256 * R1)
    (b0 : c0 ≤ 8) (b1 : c1 ≤ 8) (b2 : c2 ≤ 8) (b3 : c3 ≤ 8) (b4 : c4 ≤ 8) (b5 : c5 ≤ 8) (b6 : c6 ≤ 8) (b7 : c7 ≤ 8) :
    R0 + R0 / 256 < 9223372036854775808 ∧ (R0 + R0 / 256) + (R0 + R0 / 256) / 65536 < 9223372036854775808 ∧ ((R0 + R0 / 256) + (R0 + R0 / 256) / 65536) + ((R0 + R0 / 256) + (R0 + R0 / 256) / 65536) / 4294967296 < 9223372036854775808 ∧
    (((R0 + R0 / 256) + (R0 + R0 / 256) / 65536) + ((R0 + R0 / 256) + (R0 + R0 / 256) / 65536) / 4294967296) % 128 = (c0 + c1) + (c2 + c3) + (c4 + c5) + (c6 + c7) := by
  have l7 : R7 ≤ 8 := h7 ▸ b7
  have l6 : R6 ≤ 2056 := bnd h6 b6 l7 rfl
  have l5 : R5 ≤ 526344 := bnd h5 b5 l6 rfl
  have l4 : R4 ≤ 134744072 := bnd h4 b4 l5 rfl
  have l3 : R3 ≤ 34494482440 := bnd h3 b3 l4 rfl
  have l2 : R2 ≤ 8830587504648 := bnd h2 b2 l3 rfl
  have l1 : R1 ≤ 2260630401189896 := bnd h1 b1 l2 rfl
  have l0 : R0 ≤ 578721382704613384 := bnd h0 b0 l1 rfl
  rw [dig h0 (Nat.lt_of_le_of_lt b0 (by decide))]
  have s0 := sumD h0 h1
  have s1 := sumD h1 h2
  have s2 := sumD h2 h3
  have s3 := sumD h3 h4
  have s4 := sumD h4 h5
  have s5 := sumD h5 h6
  have s6 : R6 + R7 = (c6 + c7) + 256 * R7 := by rw [h6, ← h7]; omega
  have m0 : R0 + R1 ≤ 580982013105803280 := Nat.add_le_add l0 l1
  have m1 : R1 + R2 ≤ 2269460988694544 := Nat.add_le_add l1 l2
  have m2 : R2 + R3 ≤ 8865081987088 := Nat.add_le_add l2 l3
  have m3 : R3 + R4 ≤ 34629226512 := Nat.add_le_add l3 l4
  have m4 : R4 + R5 ≤ 135270416 := Nat.add_le_add l4 l5
  have m5 : R5 + R6 ≤ 528400 := Nat.add_le_add l5 l6
  have m6 : R6 + R7 ≤ 2064 := Nat.add_le_add l6 l7
  clear h0 h1 h2 h3 h4 h5 h6 h7
  generalize R0 + R1 = S0 at *
  generalize R1 + R2 = S1 at *
  generalize R2 + R3 = S2 at *
  generalize R3 + R4 = S3 at *
  generalize R4 + R5 = S4 at *
  generalize R5 + R6 = S5 at *
  generalize R6 + R7 = S6 at *
  clear l0 l1 l2 l3 l4 l5 l6
  have s01 := s0; rw [s1] at s01
  rw [dig2 s01 (two8 b0 b1) (two8 b1 b2)]
  have u0 := sumS s0 s2
  have u1 := sumS s1 s3
  have u2 := sumS s2 s4
  have u3 := sumS s3 s5
  have e := u0; rw [u1, u2, u3] at e
  rw [dig4 e (four b0 b1 b2 b3) (four b1 b2 b3 b4) (four b2 b3 b4 b5) (four b3 b4 b5 b6)]
  refine ⟨Nat.lt_of_le_of_lt m0 (by decide), Nat.lt_of_le_of_lt (Nat.add_le_add m0 m2) (by decide), Nat.lt_of_le_of_lt (Nat.add_le_add (Nat.add_le_add m0 m2) (Nat.add_le_add m4 m6)) (by decide), ?_⟩
  exact lastD s0 s2 s4 s6 (eight b0 b1 b2 b3 b4 b5 b6 b7)
theorem fold8c {y s c0 c1 c2 c3 c4 c5 c6 c7 : Nat} (hs : s = c0 + (c1 + (c2 + (c3 + (c4 + (c5 + (c6 + c7))))))) (hy : y = c0 + 256 * (c1 + 256 * (c2 + 256 * (c3 + 256 * (c4 + 256 * (c5 + 256 * (c6 + 256 * c7)))))))
    (b0 : c0 ≤ 8) (b1 : c1 ≤ 8) (b2 : c2 ≤ 8) (b3 : c3 ≤ 8) (b4 : c4 ≤ 8) (b5 : c5 ≤ 8) (b6 : c6 ≤ 8) (b7 : c7 ≤ 8) :
    y + y / 256 < 9223372036854775808 ∧ (y + y / 256) + (y + y / 256) / 65536 < 9223372036854775808 ∧ ((y + y / 256) + (y + y / 256) / 65536) + ((y + y / 256) + (y + y / 256) / 65536) / 4294967296 < 9223372036854775808 ∧
    (((y + y / 256) + (y + y / 256) / 65536) + ((y + y / 256) + (y + y / 256) / 65536) / 4294967296) % 128 = s := by
  subst hy
  rw [hs, show c0 + (c1 + (c2 + (c3 + (c4 + (c5 + (c6 + c7)))))) = (c0 + c1) + (c2 + c3) + (c4 + c5) + (c6 + c7) by omega]
  exact fold8d rfl rfl rfl rfl rfl rfl rfl rfl b0 b1 b2 b3 b4 b5 b6 b7
/-- All bytes of a word counted into its lowest. -/
theorem fold8 (n : Nat) : let y := mapB (bits 8) 8 n
    y + y / 256 < 9223372036854775808 ∧ (y + y / 256) + (y + y / 256) / 65536 < 9223372036854775808 ∧ ((y + y / 256) + (y + y / 256) / 65536) + ((y + y / 256) + (y + y / 256) / 65536) / 4294967296 < 9223372036854775808 ∧
    (((y + y / 256) + (y + y / 256) / 65536) + ((y + y / 256) + (y + y / 256) / 65536) / 4294967296) % 128 = bits 64 n := by
  have hs : bits 64 n = bits 8 n + (bits 8 (n / 256) + (bits 8 (n / 256 / 256) + (bits 8 (n / 256 / 256 / 256) + (bits 8 (n / 256 / 256 / 256 / 256) + (bits 8 (n / 256 / 256 / 256 / 256 / 256) + (bits 8 (n / 256 / 256 / 256 / 256 / 256 / 256) + bits 8 (n / 256 / 256 / 256 / 256 / 256 / 256 / 256))))))) := by
    rw [show 64 = 8 + (8 + (8 + (8 + (8 + (8 + (8 + 8)))))) from rfl, bits_add, bits_add, bits_add, bits_add, bits_add, bits_add, bits_add]
  have b0 := bits_le 8 n
  have b1 := bits_le 8 (n / 256)
  have b2 := bits_le 8 (n / 256 / 256)
  have b3 := bits_le 8 (n / 256 / 256 / 256)
  have b4 := bits_le 8 (n / 256 / 256 / 256 / 256)
  have b5 := bits_le 8 (n / 256 / 256 / 256 / 256 / 256)
  have b6 := bits_le 8 (n / 256 / 256 / 256 / 256 / 256 / 256)
  have b7 := bits_le 8 (n / 256 / 256 / 256 / 256 / 256 / 256 / 256)
  have hy : mapB (bits 8) 8 n = bits 8 n + 256 * (bits 8 (n / 256) + 256 * (bits 8 (n / 256 / 256) + 256 * (bits 8 (n / 256 / 256 / 256) + 256 * (bits 8 (n / 256 / 256 / 256 / 256) + 256 * (bits 8 (n / 256 / 256 / 256 / 256 / 256) + 256 * (bits 8 (n / 256 / 256 / 256 / 256 / 256 / 256) + 256 * (bits 8 (n / 256 / 256 / 256 / 256 / 256 / 256 / 256)))))))) := by
    rw [mapB_bits, mapB_bits, mapB_bits, mapB_bits, mapB_bits, mapB_bits, mapB_bits, mapB_bits]
    simp [mapB]
  generalize bits 8 n = c0 at *
  generalize bits 8 (n / 256) = c1 at *
  generalize bits 8 (n / 256 / 256) = c2 at *
  generalize bits 8 (n / 256 / 256 / 256) = c3 at *
  generalize bits 8 (n / 256 / 256 / 256 / 256) = c4 at *
  generalize bits 8 (n / 256 / 256 / 256 / 256 / 256) = c5 at *
  generalize bits 8 (n / 256 / 256 / 256 / 256 / 256 / 256) = c6 at *
  generalize bits 8 (n / 256 / 256 / 256 / 256 / 256 / 256 / 256) = c7 at *
  exact fold8c hs hy b0 b1 b2 b3 b4 b5 b6 b7
theorem shr_n64 (n v : Nat) (hv : v < 64) : shrI .u64 (n : Int) (v : Int) = ((n / 2 ^ v : Nat) : Int) := by
  unfold shrI
  have : min (v : Int).toNat IntKind.u64.bits = v := by simp [IntKind.bits]; omega
  rw [this, Int.fdiv_eq_ediv_of_nonneg _ (Int.pow_nonneg (by omega))]
  simp
theorem bw_and_i64 (n : Nat) (hn : n < 9223372036854775808) : bw .and .i64 (n : Int) 127 = ((n % 128 : Nat) : Int) := by
  have e1 : BitVec.ofInt IntKind.i64.bits (n : Int) = BitVec.ofNat 64 n := by simp [IntKind.bits]
  have e2 : BitVec.ofInt IntKind.i64.bits (127 : Int) = BitVec.ofNat 64 127 := rfl
  have e3 : (BitVec.ofNat 64 n &&& BitVec.ofNat 64 127).toNat = n % 128 := by
    have h := Nat.and_two_pow_sub_one_eq_mod n 7
    rw [BitVec.toNat_and, BitVec.toNat_ofNat, BitVec.toNat_ofNat, Nat.mod_eq_of_lt (show n < 2 ^ 64 by omega)]
    exact h
  unfold bw
  simp only [e1, e2]
  show IntKind.i64.wrap (((BitVec.ofNat 64 n &&& BitVec.ofNat 64 127).toNat : Nat) : Int) = _
  rw [e3, i64_in _ (by omega)]
theorem bits_cntP (n : Nat) : ∀ d, bits d n = cntP (bitI (n : Int)) d
  | 0 => rfl
  | d + 1 => by
    rw [bits_add d 1, bits_cntP n d]
    simp only [cntP, bits]
    have : bitI (n : Int) d = decide (n / 2 ^ d % 2 = 1) := by
      unfold bitI
      rw [show ((n : Int) / 2 ^ d) = ((n / 2 ^ d : Nat) : Int) by simp]
      congr 1
      simp only [eq_iff_iff]; omega
    rw [this]
    by_cases h : n / 2 ^ d % 2 = 1
    · simp [h]
    · have h : n / 2 ^ d % 2 = 0 := by omega
      simp [h]
theorem mask85 : (6148914691236517205 : Int) = ((rep 85 8 : Nat) : Int) := by decide
theorem mask51 : (3689348814741910323 : Int) = ((rep 51 8 : Nat) : Int) := by decide
theorem mask15 : (1085102592571150095 : Int) = ((rep 15 8 : Nat) : Int) := by decide
theorem swar1 {n : Nat} (hn : n < 18446744073709551616) : IntKind.wrap IntKind.u64 (bw BinOp.and IntKind.u64 (shrI IntKind.u64 (n : Int) 1) 6148914691236517205 + bw BinOp.and IntKind.u64 (n : Int) 6148914691236517205) = ((mapB g1 8 n : Nat) : Int) := by
  have hr : rep 85 8 < 18446744073709551616 := by decide
  have hs : shrI IntKind.u64 (n : Int) 1 = ((n / 2 : Nat) : Int) := shr_n64 n 1 (by omega)
  have hl := mapB_lt g1_lt 8 n
  rw [mask85, hs, bw_and64 _ _ (by omega) hr, bw_and64 _ _ hn hr, ← Int.natCast_add, step1 8 n, Go.IntWalk.u64_in _ ⟨by omega, by omega⟩]
theorem swar2 {n : Nat} (hn : n < 18446744073709551616) (hl : mapB g2 8 n < 18446744073709551616) : IntKind.wrap IntKind.u64 (bw BinOp.and IntKind.u64 (shrI IntKind.u64 (n : Int) 2) 3689348814741910323 + bw BinOp.and IntKind.u64 (n : Int) 3689348814741910323) = ((mapB g2 8 n : Nat) : Int) := by
  have hr : rep 51 8 < 18446744073709551616 := by decide
  have hs : shrI IntKind.u64 (n : Int) 2 = ((n / 4 : Nat) : Int) := shr_n64 n 2 (by omega)
  rw [mask51, hs, bw_and64 _ _ (by omega) hr, bw_and64 _ _ hn hr, ← Int.natCast_add, step2 8 n, Go.IntWalk.u64_in _ ⟨by omega, by omega⟩]
theorem swar3 {n : Nat} {f : Nat → Nat} (hf : halves f) (hs : mapB f 8 n < 4919131752989213765) : bw BinOp.and IntKind.u64 (IntKind.wrap IntKind.u64 (shrI IntKind.u64 ((mapB f 8 n : Nat) : Int) 4 + ((mapB f 8 n : Nat) : Int))) 1085102592571150095 = ((mapB (fun b => g3 (f b)) 8 n : Nat) : Int) := by
  have hr : rep 15 8 < 18446744073709551616 := by decide
  have h4 : shrI IntKind.u64 ((mapB f 8 n : Nat) : Int) 4 = ((mapB f 8 n / 16 : Nat) : Int) := shr_n64 _ 4 (by omega)
  rw [mask15, h4, ← Int.natCast_add, Go.IntWalk.u64_in _ ⟨by omega, by omega⟩, bw_and64 _ _ (by omega) hr, step3 hf 8 n]
theorem mapB_le {f : Nat → Nat} {c : Nat} (hf : ∀ b, b < 256 → f b ≤ c) : ∀ k x, mapB f k x ≤ rep c k
  | 0, _ => by simp [mapB, rep]
  | k + 1, x => by
    have h1 := hf (x % 256) (by omega)
    have h2 := mapB_le hf k (x / 256)
    simp only [mapB, rep]
    omega
theorem g2_68 : ∀ b, b < 256 → g2 (g1 b) ≤ 68 := by decide +kernel
theorem eq_bits_OnesCount64 : Eqs c_bits_OnesCount64 g_bits_OnesCount64 := Eqs.tot fun (x, _) hf => by
  change Int at x
  have hx : 0 ≤ x ∧ x ≤ 18446744073709551615 := fine_u64.1 hf.1
  obtain ⟨n, rfl⟩ := Int.eq_ofNat_of_zero_le hx.1
  have hn : n < 18446744073709551616 := by omega
  show g_bits_OnesCount64 ((n : Int), ()) = some (cntW (n : Int), ())
  have hy := mapB_le g2_68 8 n
  have hy2 : rep 68 8 = 4919131752989213764 := by decide
  have hl1 : mapB g1 8 n < 18446744073709551616 := mapB_lt g1_lt 8 n
  have hc2 : mapB g2 8 (mapB g1 8 n) = mapB (fun b => g2 (g1 b)) 8 n := mapB_comp g1_lt 8 n
  have h3 := swar3 (f := fun b => g2 (g1 b)) g2_halves (n := n) (by omega)
  have hb : mapB (fun b => g3 (g2 (g1 b))) 8 n = mapB (bits 8) 8 n := mapB_congr g3_bits 8 n
  obtain ⟨f1, f2, f3, f4⟩ := fold8 n
  have f0 : mapB (bits 8) 8 n < 9223372036854775808 := by omega
  rw [g_bits_OnesCount64]
  rw [swar1 hn, swar2 hl1 (by rw [hc2]; omega), hc2]
  have hw : IntKind.wrap IntKind.u64 ((mapB (fun b => g2 (g1 b)) 8 n : Nat) : Int) = ((mapB (fun b => g2 (g1 b)) 8 n : Nat) : Int) := Go.IntWalk.u64_in _ ⟨by omega, by omega⟩
  rw [h3, hb]
  generalize mapB (bits 8) 8 n = Y at *
  have e8 : shrI IntKind.u64 (Y : Int) 8 = ((Y / 256 : Nat) : Int) := shr_n64 Y 8 (by omega)
  have w8 : IntKind.wrap IntKind.u64 ((Y : Int) + shrI IntKind.u64 (Y : Int) 8) = ((Y + Y / 256 : Nat) : Int) := by rw [e8, ← Int.natCast_add, Go.IntWalk.u64_in _ ⟨by omega, by omega⟩]
  rw [w8]
  generalize Y + Y / 256 = Z at *
  have e16 : shrI IntKind.u64 (Z : Int) 16 = ((Z / 65536 : Nat) : Int) := shr_n64 Z 16 (by omega)
  have w16 : IntKind.wrap IntKind.u64 ((Z : Int) + shrI IntKind.u64 (Z : Int) 16) = ((Z + Z / 65536 : Nat) : Int) := by rw [e16, ← Int.natCast_add, Go.IntWalk.u64_in _ ⟨by omega, by omega⟩]
  rw [w16]
  generalize Z + Z / 65536 = U at *
  have e32 : shrI IntKind.u64 (U : Int) 32 = ((U / 4294967296 : Nat) : Int) := shr_n64 U 32 (by omega)
  have w32 : IntKind.wrap IntKind.u64 ((U : Int) + shrI IntKind.u64 (U : Int) 32) = ((U + U / 4294967296 : Nat) : Int) := by rw [e32, ← Int.natCast_add, Go.IntWalk.u64_in _ ⟨by omega, by omega⟩]
  rw [w32, i64_in _ (by omega), bw_and_i64 _ f3, f4, bits_cntP n 64]
  unfold cntW
  rw [filter_cnt]
end Go.Co.N
end

section
namespace Go.Co.N
open Go Go.Co

theorem guardK_some {R : Type} {c : Bool} {r : Option R} {y : R} (h : guardK c r = some y) : c = true ∧ r = some y := by
  unfold guardK at h
  cases c with
  | true => exact ⟨rfl, h⟩
  | false => cases h
theorem eq_shape_Child : Eqs c_shape_Child g_shape_Child := Eqs.tot fun (v, i, _) _ => by
  change Int at v i
  show g_shape_Child (v, i, ()) = some (child v i, ())
  simp only [g_shape_Child, child]
  by_cases h1 : v < 0
  · have : ¬ (0 ≤ v ∧ v < 21 ∧ 0 ≤ i ∧ i < 4) := by omega
    simp [h1, this]
  by_cases h2 : 21 ≤ v
  · have : ¬ (0 ≤ v ∧ v < 21 ∧ 0 ≤ i ∧ i < 4) := by omega
    simp [h1, h2, this]
  by_cases h3 : i < 0
  · have : ¬ (0 ≤ v ∧ v < 21 ∧ 0 ≤ i ∧ i < 4) := by omega
    simp [h1, h2, h3, this]
  by_cases h4 : 4 ≤ i
  · have : ¬ (0 ≤ v ∧ v < 21 ∧ 0 ≤ i ∧ i < 4) := by omega
    simp [h1, h2, h3, h4, this]
  have hs : shlI IntKind.i64 v 2 = v * 4 := by
    unfold shlI
    have : min (2 : Int).toNat IntKind.i64.bits = 2 := by decide
    rw [this, i64_in _ (by omega)]
    omega
  have hc : 0 ≤ v ∧ v < 21 ∧ 0 ≤ i ∧ i < 4 := by omega
  simp only [h1, h2, h3, h4, decide_false, cond_false, hs, if_pos hc]
  rw [i64_in (v * 4 + 1) (by omega), i64_in (v * 4 + 1 + i) (by omega), show v * 4 + 1 + i = 4 * v + 1 + i by omega]
theorem eq_seats_Count : Eqs c_seats_Count g_seats_Count := Eqs.tot fun _ _ => rfl
theorem eq_seats_bit : Eqs c_seats_bit g_seats_bit := Eqs.tot fun (s, _) _ => by
  change Int at s
  show g_seats_bit (s, ()) = some (bitOf s, ())
  simp only [g_seats_bit, bitOf]
  by_cases h1 : s < 0
  · have : ¬ (0 ≤ s ∧ s < 64) := by omega
    simp [h1, this]
  by_cases h2 : 64 ≤ s
  · have : ¬ (0 ≤ s ∧ s < 64) := by omega
    simp [h1, h2, this]
  obtain ⟨n, rfl⟩ := Int.eq_ofNat_of_zero_le (show 0 ≤ s by omega)
  have hc : 0 ≤ (n : Int) ∧ (n : Int) < 64 := by omega
  simp only [h1, h2, decide_false, cond_false, if_pos hc, shl_one64 n (by omega), Int.toNat_natCast]

/-! ### Lists alike -/
theorem list_lat {α : Type} [Inhabited α] {a b : List α} (hl : a.length = b.length) : a = b ↔ ∀ i : Nat, i < a.length → lat a (i : Int) = lat b (i : Int) := by
  constructor
  · rintro rfl i _; rfl
  · intro h
    refine List.ext_getElem hl fun i h1 h2 => ?_
    have := h i h1
    rwa [lat_nat a i h1, lat_nat b i h2] at this
theorem same_lfp {α : Type} [Inhabited α] [DecidableEq α] (f : (List α × List α × Int × Int × Unit) × Unit × Unit → Option (((List α × List α × Int × Int × Unit) × Unit × Unit) ⊕ ((Bool × Unit) × Unit × Unit ⊕ Unit × Unit × Unit)))
    (hf : ∀ a b c d, f ((a, b, c, d, ()), (), ()) = bif decide (d < c) then bif decide (0 ≤ d) && decide (d < (a.length : Int)) then bif decide (0 ≤ d) && decide (d < (b.length : Int)) then bif !decide (lat a d = lat b d) then some (Sum.inr (Sum.inl ((false, ()), (), ()))) else some (Sum.inl ((a, b, c, IntKind.wrap IntKind.i64 (d + 1), ()), (), ())) else none else none else some (Sum.inr (Sum.inr ((), (), ()))))
    (a b : List α) (ha : a.length ≤ 9223372036854775807) :
    (bif !decide ((a.length : Int) = (b.length : Int)) then some (false, ()) else Option.bind (lfp f ((a, b, (a.length : Int), 0, ()), (), ())) fun z => Sum.elim (fun x => some (x.fst.fst, ())) (fun _ => some (true, ())) z) = some (decide (a = b), ()) := by
  by_cases hl : a.length = b.length
  case neg =>
    have h1 : ¬ (a.length : Int) = (b.length : Int) := by omega
    have h2 : ¬ a = b := fun e => hl (by rw [e])
    simp [h1, h2]
  have h1 : (a.length : Int) = (b.length : Int) := by omega
  simp only [h1, decide_true, Bool.not_true, cond_false]
  rw [lfp_all' (fun i => ((a, b, (b.length : Int), (i : Int), ()), (), ())) b.length (fun i => decide (lat a (i : Int) = lat b (i : Int))) (.inl ((false, ()), (), ())) (.inr ((), (), ())) (by rfl)
    (fun i hi hk => by
      have h2 : (i : Int) < (b.length : Int) := by omega
      rw [hf]
      simp only [h1, h2, hk, decide_true, cond_true, Int.natCast_nonneg, Bool.and_self, Bool.not_true, cond_false, wrap1' hi (by omega)])
    (fun i hi hk => by
      have h2 : (i : Int) < (b.length : Int) := by omega
      rw [hf]
      simp only [h1, h2, hk, decide_true, cond_true, Int.natCast_nonneg, Bool.and_self, Bool.not_false])
    (by rw [hf]; simp)]
  have hk : allN b.length (fun i => decide (lat a (i : Int) = lat b (i : Int))) = decide (a = b) := bool_eq (by
    rw [allN_iff, decide_eq_true_eq, list_lat hl, hl]
    exact ⟨fun h i hi => by simpa using h i hi, fun h i hi => by simpa using h i hi⟩)
  rw [hk]
  cases decide (a = b) <;> rfl
theorem eq_ref09_Same : Eqs c_ref09_Same g_ref09_Same := Eqs.tot fun (a, b, _) hf => by
  change List Seat at a b
  have ha : a.length * 16 ≤ 140737488355328 := (Fine.list.1 hf.1).1
  exact same_lfp g_ref09_Same_r1 (fun _ _ _ _ => rfl) a b (by omega)
theorem eq_ref08_Same : Eqs c_ref08_Same g_ref08_Same := Eqs.tot fun (a, b, _) hf => by
  change List Int at a b
  have ha : a.length * 8 ≤ 140737488355328 := (Fine.list.1 hf.1).1
  exact same_lfp g_ref08_Same_r1 (fun _ _ _ _ => rfl) a b (by omega)
theorem eq_ref12_SameItems : Eqs c_ref12_SameItems g_ref12_SameItems := Eqs.tot fun (a, b, _) hf => by
  change List Item at a b
  have ha : a.length * 48 ≤ 140737488355328 := (Fine.list.1 hf.1).1
  exact same_lfp g_ref12_SameItems_r1 (fun _ _ _ _ => rfl) a b (by omega)
theorem eq_ref12_Same : Eqs c_ref12_Same g_ref12_Same := Eqs.tot fun (a, b, _) _ => by
  change Rekey at a b
  show g_ref12_Same (a, b, ()) = some (decide (a = b), ())
  obtain ⟨e, l, j, i⟩ := a
  obtain ⟨e', l', j', i'⟩ := b
  simp only [g_ref12_Same, Rekey.mk.injEq]
  by_cases h1 : e = e' <;> by_cases h2 : l = l' <;> by_cases h3 : j = j' <;> simp [h1, h2, h3]

/-! ### Items opened -/
/-! ### Plans' small ones -/
theorem eq_plan_nodeKey : Eqs c_plan_nodeKey g_plan_nodeKey := fun (t, v, _) y _ h => by
  change Tree at t
  change Int at v
  obtain ⟨hg, h⟩ := guardK_some h
  have hb : 0 ≤ v ∧ v ≤ 84 := betw_iff.1 hg
  obtain ⟨h0, h1⟩ := hb
  rw [← h]
  show g_plan_nodeKey (t, v, ()) = some (nodeK t v, ())
  simp only [g_plan_nodeKey, nodeK]
  by_cases hs : 0 ≤ slot v
  · have : slot v < 64 := by unfold slot; split <;> omega
    simp [hs, this]
  · have hv : v < 21 := by
      unfold slot at hs
      split at hs <;> omega
    simp [hs, h0, hv]
theorem gone_go (r : Roster) : ∀ (l : List Int) (a : List Co.Seat), foldE (Z := (List Seat × Unit) × Unit × Unit) (fun a w => Sum.inl (a ++ [⟨w, findR r w⟩])) (fun a => ((a, ()), (), ())) l a = ((a ++ goneOf r l, ()), (), ())
  | [], a => by simp [foldE, goneOf]
  | w :: l, a => by
    simp only [foldE]
    rw [gone_go r l]
    simp [goneOf]
theorem eq_plan_leavers : Eqs c_plan_leavers g_plan_leavers := fun (r, l, _) y hf h => by
  change List Int at l
  obtain ⟨hg, h⟩ := guardK_some h
  have hl : l.length ≤ 64 := of_decide_eq_true hg
  rw [← h]
  show g_plan_leavers (r, l, ()) = some (goneOf r l, ())
  simp only [g_plan_leavers]
  have hloop := lfp_list (f := g_plan_leavers_r1) l (fun i (a : List Co.Seat) => (((), a, l, (l.length : Int), (i : Int), ()), (r, ()), ()))
    (fun a w => Sum.inl (a ++ [⟨w, findR r w⟩])) (fun i _ a => a.length = i) (fun a => ((a, ()), (), ()))
    (fun i x rest a _ hi hx ha => by
      refine ⟨fun a' ha' => ?_, ?_⟩
      · simp only [Sum.inl.injEq] at ha'
        subst ha'; simp [ha]
      · have h1 : (i : Int) < (l.length : Int) := by omega
        have h2 : (a.length + 1) * 16 ≤ 140737488355328 := by omega
        simp only [g_plan_leavers_r1, h1, hx, h2, decide_true, cond_true, Int.natCast_nonneg, Bool.and_self, wrap1' hi (by omega)]
        rfl)
    (fun a _ => by simp [g_plan_leavers_r1]) l 0 [] rfl (by omega) rfl
  rw [show lfp g_plan_leavers_r1 (((), [], l, (l.length : Int), 0, ()), (r, ()), ()) = _ from hloop, gone_go]
  simp
theorem eq_roster_names : Eqs c_roster_names g_roster_names := fun (r, b, n, _) y hf h => by
  change Int at b n
  obtain ⟨hg, h⟩ := guardK_some h
  have hn : 0 ≤ n ∧ n ≤ 64 := by simpa using hg
  rw [← h]
  show g_roster_names (r, b, n, ()) = some (namesFree r b n, ())
  simp only [g_roster_names, namesFree]
  by_cases h0 : n = 0
  · simp [h0]
  by_cases h1 : b < 1
  · have : ¬ 1 ≤ b := by omega
    simp [h0, h1, this]
  have h1' : 1 ≤ b := by omega
  rw [i64_in (32768 - n) (by omega)]
  by_cases h2 : 32768 - n < b
  · have : ¬ b ≤ 32768 - n := by omega
    simp [h0, h1, h2, this]
  have h2' : b ≤ 32768 - n := by omega
  simp only [h0, h1, h2, h1', h2', decide_false, decide_true, cond_false, Bool.false_or, Bool.true_and]
  rw [lfp_find' (fun i => (((), (), 64, (i : Int), ()), (r, b, n, ()), ())) 64 (fun i => decide (b ≤ (ent r i).Base) && decide ((ent r i).Base < b + n)) (fun i => Sum.inl (((i : Int), ()), (r, b, n, ()), ())) (.inr ((), (r, b, n, ()), ())) (by rfl)
    (fun i hi hb => by
      have h1 : (i : Int) < 64 := by omega
      have hent : Arr.get r (i : Int) = ent r i := rfl
      simp only [g_roster_names_r1, h1, hent, decide_true, cond_true, Int.natCast_nonneg, Bool.and_self, wrap1 i (by omega), i64_in (b + n) (by omega)]
      cases hq : decide (b ≤ (ent r i).Base) with
      | false => rfl
      | true =>
        have : decide ((ent r i).Base < b + n) = false := by simpa [hq] using hb
        rw [this]; rfl)
    (fun i hi hb => by
      have h1 : (i : Int) < 64 := by omega
      have hent : Arr.get r (i : Int) = ent r i := rfl
      simp only [Bool.and_eq_true] at hb
      simp only [g_roster_names_r1, h1, hent, decide_true, cond_true, Int.natCast_nonneg, Bool.and_self, i64_in (b + n) (by omega), hb.1, hb.2])
    (by simp [g_roster_names_r1])]
  simp only [Option.bind_some]
  cases hx : fstN 64 (fun i => decide (b ≤ (ent r i).Base) && decide ((ent r i).Base < b + n)) 0 with
  | none =>
    have : allN 64 (fun s => !(decide (b ≤ (ent r s).Base) && decide ((ent r s).Base < b + n))) = true := allN_iff.2 fun i hi => by
      have := fstN_none hx i (by omega) (by omega)
      simp only [this, Bool.not_false]
    rw [this]; rfl
  | some i =>
    obtain ⟨_, hi, hp, _⟩ := fstN_some hx
    have : allN 64 (fun s => !(decide (b ≤ (ent r s).Base) && decide ((ent r s).Base < b + n))) = false := by
      cases hq : allN 64 (fun s => !(decide (b ≤ (ent r s).Base) && decide ((ent r s).Base < b + n))) with
      | false => rfl
      | true =>
        have := allN_iff.1 hq i (by omega)
        rw [hp] at this; cases this
    have h0 : 0 ≤ (i : Int) := by omega
    rw [this]; simp [h0]
end Go.Co.N
end

section
namespace Go.Co.N
open Go Go.Co

/-- Who was seen, once. -/
def SeenM (h : List (Int × Int)) (seen : List Int) : Prop := ∀ w, mget h w = if w ∈ seen then some 1 else none
theorem SeenM.nil : SeenM [] [] := fun w => by simp [mget]
def seeM (h : List (Int × Int)) (seen : List Int) (x : Int) : List (Int × Int) := mput h x (bif decide (x ∈ seen) then 2 else 1)
theorem SeenM.see {h : List (Int × Int)} {seen : List Int} {x : Int} (hs : SeenM h seen) (hx : x ∉ seen) : SeenM (seeM h seen x) (x :: seen) := fun w => by
  unfold seeM
  rw [mget_mput]
  simp only [hx, decide_false, cond_false, List.mem_cons]
  by_cases hw : x = w
  · subst hw; simp
  · have hw' : ¬ w = x := fun e => hw e.symm
    simp only [hw, hw', if_false, false_or]
    exact hs w
theorem SeenM.count {h : List (Int × Int)} {seen : List Int} (hs : SeenM h seen) (x : Int) : mput h x (IntKind.wrap IntKind.i64 (Option.getD (mget h x) 0 + 1)) = seeM h seen x := by
  unfold seeM
  rw [hs x]
  by_cases hx : x ∈ seen
  · simp only [hx, if_true, decide_true, cond_true, Option.getD_some]
    rw [i64_in _ (by omega)]; rfl
  · simp only [hx, if_false, decide_false, cond_false, Option.getD_none]
    rw [i64_in _ (by omega)]; rfl
theorem SeenM.twice (h : List (Int × Int)) (seen : List Int) (x : Int) : decide (1 < Option.getD (mget (seeM h seen x) x) 0) = decide (x ∈ seen) := by
  unfold seeM
  rw [mget_mput]
  by_cases hx : x ∈ seen <;> simp [hx]
section
variable {Z : Type} (r : Roster) (leaves : Bool) (fin : List (Int × Int) × List Int → Z) (err : Int → List (Int × Int) → Z)
def seeStep (a : List (Int × Int) × List Int) (x : Int) : (List (Int × Int) × List Int) ⊕ Z :=
  bif decide (personE r a.2 leaves x = 0) then Sum.inl (seeM a.1 a.2 x, x :: a.2) else Sum.inr (err (personE r a.2 leaves x) (seeM a.1 a.2 x))
theorem see_fold : ∀ (l : List Int) (h : List (Int × Int)) (seen : List Int), SeenM h seen → ∃ h', (askL r leaves l seen = 0 → SeenM h' (askSeen l seen)) ∧
    foldE (seeStep r leaves err) fin l (h, seen) = bif decide (askL r leaves l seen = 0) then fin (h', askSeen l seen) else err (askL r leaves l seen) h'
  | [], h, seen, hs => ⟨h, fun _ => by simpa [askSeen] using hs, by simp [foldE, askL, askSeen]⟩
  | w :: l, h, seen, hs => by
    simp only [foldE, askL, seeStep]
    by_cases hp : personE r seen leaves w = 0
    · simp only [hp, decide_true, cond_true]
      obtain ⟨h', h1, h2⟩ := see_fold l (seeM h seen w) (w :: seen) (hs.see (personE_0.1 hp).2.2.1)
      refine ⟨h', fun e => ?_, ?_⟩
      · have := h1 e
        simpa [askSeen] using this
      · rw [h2]; simp [askSeen]
    · refine ⟨seeM h seen w, fun e => ?_, ?_⟩
      · simp only [hp, decide_false, cond_false] at e
      · simp [hp]
end
/-- The program's round. -/
theorem see_round {b : Batch} (r : Roster) (leaves : Bool) (l : List Int) (i : Nat) (x : Int) (h : List (Int × Int)) (seen : List Int) (hi : i < l.length) (hl : l.length ≤ 9223372036854775807) (hx : lat l (i : Int) = x) (hs : SeenM h seen) :
    g_roster_Fits_r1 ((leaves, (bif leaves then 16 else 17), (), (), l, (l.length : Int), (i : Int), ()), (r, b, (), ()), h, ()) =
      some (match seeStep r leaves (fun e h => Sum.inl ((e, ()), (r, b, (), ()), h, ())) (h, seen) x with
        | .inl a' => .inl ((leaves, (bif leaves then 16 else 17), (), (), l, (l.length : Int), ((i + 1 : Nat) : Int), ()), (r, b, (), ()), a'.1, ())
        | .inr z => .inr z) := by
  have h1 : (i : Int) < (l.length : Int) := by omega
  simp only [g_roster_Fits_r1, h1, decide_true, cond_true, Int.natCast_nonneg, Bool.and_self, hx, hs.count, SeenM.twice, wrap1' hi hl]
  unfold seeStep personE
  by_cases h2 : x < 0
  · have : ¬ 0 ≤ x := by omega
    simp [h2, this]
  by_cases h3 : 256 ≤ x
  · have : ¬ x < 256 := by omega
    simp [h2, h3, this]
  have h4 : 0 ≤ x := by omega
  have h5 : x < 256 := by omega
  by_cases h6 : x ∈ seen
  · simp [h2, h3, h4, h5, h6]
  cases leaves <;> by_cases h7 : 0 ≤ findR r x <;> simp [h2, h3, h4, h5, h6, h7]
theorem see_lfp {b : Batch} (r : Roster) (leaves : Bool) (l : List Int) (h : List (Int × Int)) (seen : List Int) (hl : l.length ≤ 9223372036854775807) (hs : SeenM h seen) :
    ∃ h', (askL r leaves l seen = 0 → SeenM h' (askSeen l seen)) ∧ lfp g_roster_Fits_r1 ((leaves, (bif leaves then 16 else 17), (), (), l, (l.length : Int), 0, ()), (r, b, (), ()), h, ()) =
      some (bif decide (askL r leaves l seen = 0) then .inr ((), (r, b, (), ()), h', ()) else .inl ((askL r leaves l seen, ()), (r, b, (), ()), h', ())) := by
  obtain ⟨h', h1, h2⟩ := see_fold r leaves (fun a : List (Int × Int) × List Int => (Sum.inr ((), (r, b, (), ()), a.1, ()) : (Int × Unit) × (Vector Entry 64 × Batch × Unit × Unit) × List (Int × Int) × Unit ⊕ Unit × (Vector Entry 64 × Batch × Unit × Unit) × List (Int × Int) × Unit))
    (fun e h => Sum.inl ((e, ()), (r, b, (), ()), h, ())) l h seen hs
  refine ⟨h', h1, ?_⟩
  rw [← h2]
  exact lfp_list (f := g_roster_Fits_r1) l (fun i (a : List (Int × Int) × List Int) => ((leaves, (bif leaves then 16 else 17), (), (), l, (l.length : Int), (i : Int), ()), (r, b, (), ()), a.1, ()))
    (seeStep r leaves (fun e h => Sum.inl ((e, ()), (r, b, (), ()), h, ()))) (fun _ _ a => SeenM a.1 a.2) (fun a => .inr ((), (r, b, (), ()), a.1, ()))
    (fun i x rest a _ hi hx ha => by
      refine ⟨fun a' ha' => ?_, (see_round (b := b) r leaves l i x a.1 a.2 hi hl hx ha).trans (by cases seeStep r leaves (fun e h => (Sum.inl ((e, ()), (r, b, (), ()), h, ()) : (Int × Unit) × (Vector Entry 64 × Batch × Unit × Unit) × List (Int × Int) × Unit ⊕ Unit × (Vector Entry 64 × Batch × Unit × Unit) × List (Int × Int) × Unit)) (a.1, a.2) x <;> rfl)⟩
      unfold seeStep at ha'
      by_cases hp : personE r a.2 leaves x = 0
      · simp only [hp, decide_true, cond_true, Sum.inl.injEq] at ha'
        subst ha'
        exact ha.see (personE_0.1 hp).2.2.1
      · simp [hp] at ha')
    (fun a _ => by simp [g_roster_Fits_r1]) l 0 (h, seen) rfl (by omega) hs
theorem eq_roster_Fits : Eqs c_roster_Fits g_roster_Fits := Eqs.tot fun (r, b, _) hf => by
  change Batch at b
  have hb : Fine (.list .i) b.Leaves ∧ Fine (.list .i) b.Joins := fine_batch.1 hf.2.1
  have hL : b.Leaves.length * 8 ≤ 140737488355328 := fine_li hb.1
  have hJ : b.Joins.length * 8 ≤ 140737488355328 := fine_li hb.2
  show g_roster_Fits (r, b, ()) = some (fits r b, ())
  simp only [g_roster_Fits, fits]
  have hck : decide (chkR r = 0) = goodRoster r := by
    cases hg : goodRoster r <;> simp [chkR, hg]
  cases hg : goodRoster r with
  | false => simp [chkR, hg]
  | true =>
    rw [hck, hg]
    simp only [Bool.not_true, cond_false, cond_true]
    obtain ⟨h1, k1, k2⟩ := see_lfp (b := b) r true b.Leaves [] [] (by omega) .nil
    simp only [cond_true] at k2
    rw [k2]
    by_cases ha : askL r true b.Leaves [] = 0
    case neg => simp [ha]
    have hs1 := k1 ha
    have hc := cntW_le (taken r)
    have hl := askL_len ha
    obtain ⟨h2, k3, k4⟩ := see_lfp (b := b) r false b.Joins h1 (askSeen b.Leaves []) (by omega) hs1
    simp only [cond_false] at k4
    have hcg : ∀ (l s s' : List Int), (∀ x, x ∈ s ↔ x ∈ s') → askL r false l s = askL r false l s' := by
      intro l
      induction l with
      | nil => intro _ _ _; rfl
      | cons w l ih =>
        intro s s' hss
        have hp : personE r s false w = personE r s' false w := by simp only [personE, hss w]
        simp only [askL, hp]
        rw [ih (w :: s) (w :: s') fun x => by simp [hss x]]
    have hsw : askL r false b.Joins (askSeen b.Leaves []) = askL r false b.Joins b.Leaves := hcg _ _ _ fun x => by simp [askSeen]
    simp only [ha, decide_true, cond_true, Option.bind_some, Sum.elim_inr]
    rw [k4, hsw]
    by_cases hj : askL r false b.Joins b.Leaves = 0
    case neg => simp [hj]
    have hjl := askL_len hj
    simp only [hj, decide_true, cond_true, Option.bind_some, Sum.elim_inr]
    rw [i64_in (64 - cntW (taken r)) (by omega), i64_in _ (by omega)]
    by_cases h3 : (b.Joins.length : Int) ≤ 64 - cntW (taken r) + b.Leaves.length
    · have : ¬ 64 - cntW (taken r) + (b.Leaves.length : Int) < b.Joins.length := by omega
      simp [h3, this]
    · have : 64 - cntW (taken r) + (b.Leaves.length : Int) < b.Joins.length := by omega
      simp [h3, this]
end Go.Co.N
end

section
namespace Go.Co.N
open Go Go.Co

/-- The free slots of a roster, rising. -/
def freeR (r : Roster) : List Nat := (List.range 64).filter fun s => !isOn r s
theorem freeL_taken (r : Roster) : freeL (taken r) = freeR r := by
  unfold freeL freeR taken
  refine List.filter_congr fun i hi => ?_
  have hi : i < 64 := by simpa using hi
  rw [bitI_word]; simp [hi]
theorem freeR_len (r : Roster) : (freeR r).length = freeN r := by
  unfold freeR freeN
  rw [filter_cnt]
theorem range_split {n s : Nat} {l1 l2 : List Nat} (h : List.range n = l1 ++ s :: l2) : (∀ k, k < s → k ∈ l1) ∧ s < n ∧ (∀ x ∈ l2, x ≠ s) ∧ s ∉ l1 := by
  have hp : (l1 ++ s :: l2).Pairwise (· < ·) := h ▸ List.pairwise_lt_range
  obtain ⟨_, h2, h3⟩ := List.pairwise_append.1 hp
  have h2 := List.pairwise_cons.1 h2
  have hs : s < n := by
    have : s ∈ List.range n := by rw [h]; simp
    simpa using this
  refine ⟨fun k hk => ?_, hs, fun x hx => Nat.ne_of_gt (h2.1 x hx), fun hm => absurd (h3 s hm s (List.mem_cons_self ..)) (Nat.lt_irrefl _)⟩
  have : k ∈ List.range n := by simp; omega
  rw [h] at this
  rcases List.mem_append.1 this with hm | hm
  · exact hm
  · rcases List.mem_cons.1 hm with rfl | hm
    · omega
    · have := h2.1 k hm; omega
theorem freeR_cons {r : Roster} {s : Nat} {F : List Nat} (h : freeR r = s :: F) : s < 64 ∧ lowFree r = s ∧ ∀ e : Entry, e.Base ≠ 0 → freeR (Arr.put r (s : Int) e) = F := by
  obtain ⟨l1, l2, h1, h2, h3, h4⟩ := List.filter_eq_cons_iff.1 h
  obtain ⟨k1, k2, k3, k4⟩ := range_split h1
  have hf : isOn r s = false := by simpa using h3
  refine ⟨k2, ?_, fun e he => ?_⟩
  · have hpos : 0 < freeN r := by rw [← freeR_len, h]; simp
    obtain ⟨t, ht, e1, e2, e3⟩ := lowFree_ok hpos
    rw [e1]
    have h5 : ¬ t < s := fun hlt => by
      have := h2 t (k1 t hlt)
      rw [e2] at this; simp at this
    have h6 : ¬ s < t := fun hlt => by rw [e3 s hlt] at hf; cases hf
    omega
  · have hon : ∀ x, isOn (Arr.put r (s : Int) e) x = if s = x then true else isOn r x := fun x => by
      rw [isOn_put r k2]
      simp [he]
    unfold freeR
    rw [h1, List.filter_append, List.filter_cons]
    have e1 : l1.filter (fun x => !isOn (Arr.put r (s : Int) e) x) = [] := List.filter_eq_nil_iff.2 fun x hx => by
      rw [hon]
      split
      · simp
      · exact h2 x hx
    have e2 : l2.filter (fun x => !isOn (Arr.put r (s : Int) e) x) = F := by
      rw [← h4]
      refine List.filter_congr fun x hx => ?_
      rw [hon, if_neg (fun e => k3 x hx e.symm)]
    rw [e1, e2, hon]
    simp
/-- Joiners on these slots. -/
def joinS (since : Int) : List Int → List Nat → Int → Roster → Roster × List Seat
  | w :: ws, s :: ss, b, r => ((joinS since ws ss (b + 1) (Arr.put r (s : Int) ⟨w, b, since⟩)).1, ⟨w, (s : Int)⟩ :: (joinS since ws ss (b + 1) (Arr.put r (s : Int) ⟨w, b, since⟩)).2)
  | _, _, _, r => (r, [])
theorem joinS_eq (since : Int) : ∀ (ws : List Int) (b : Int) (r : Roster), ws.length ≤ (freeR r).length → 1 ≤ b → joinS since ws ((freeR r).take ws.length) b r = joinGo since ws b r
  | [], _, _, _, _ => by simp [joinS, joinGo]
  | w :: ws, b, r, hl, hb => by
    cases hF : freeR r with
    | nil => rw [hF] at hl; simp at hl
    | cons s F =>
      obtain ⟨h1, h2, h3⟩ := freeR_cons hF
      have h3 := h3 ⟨w, b, since⟩ (by show b ≠ 0; omega)
      rw [hF] at hl
      simp only [List.length_cons] at hl
      simp only [List.length_cons, List.take_succ_cons, joinS, joinGo, h2]
      have ih := joinS_eq since ws (b + 1) (Arr.put r (s : Int) ⟨w, b, since⟩) (by rw [h3]; omega) (by omega)
      rw [h3] at ih
      rw [ih]
abbrev JA := Roster × List Seat × List Int
def joinStep {Z : Type} (since base : Int) (a : JA) (x : Int) : JA ⊕ Z :=
  .inl (Arr.put a.1 x ⟨a.2.2.headD 0, base + (a.2.1.length : Int), since⟩, a.2.1 ++ [⟨a.2.2.headD 0, x⟩], a.2.2.tail)
theorem joinS_fold {Z : Type} (since base : Int) (fin : JA → Z) : ∀ (ws : List Int) (ss : List Nat) (acc : List Seat) (r : Roster), ws.length = ss.length →
    foldE (joinStep since base) fin (ss.map fun (i : Nat) => (i : Int)) (r, acc, ws) = fin ((joinS since ws ss (base + acc.length) r).1, acc ++ (joinS since ws ss (base + acc.length) r).2, [])
  | [], [], acc, r, _ => by simp [foldE, joinS]
  | [], _ :: _, _, _, h => by simp at h
  | _ :: _, [], _, _, h => by simp at h
  | w :: ws, s :: ss, acc, r, h => by
    simp only [List.map_cons, foldE, joinStep, joinS, List.headD_cons, List.tail_cons]
    have := joinS_fold since base fin ws ss (acc ++ [⟨w, (s : Int)⟩]) (Arr.put r (s : Int) ⟨w, base + acc.length, since⟩) (by simpa using h)
    rw [show foldE (joinStep since base) fin (ss.map fun (i : Nat) => (i : Int)) (Arr.put r (s : Int) ⟨w, base + acc.length, since⟩, acc ++ [⟨w, (s : Int)⟩], ws) = _ from this]
    simp [Int.add_assoc]
section
variable {r : Roster} {b : Batch} {since base : Int}
theorem rmove_loop1 (hc : canLeave r b.Leaves) (hl : b.Leaves.length ≤ 256) :
    lfp g_roster_Move_r1 ((since, base, (), (), (), [], (), b.Leaves, (b.Leaves.length : Int), 0, ()), (r, b, zeroR, ()), ()) = some ((since, base, (), (), (), (leaveGo b.Leaves r).2, (), ()), ((leaveGo b.Leaves r).1, b, zeroR, ()), ()) := by
  have h := lfp_list (f := g_roster_Move_r1) b.Leaves (fun i (a : List Co.Seat × Roster) => ((since, base, (), (), (), a.1, (), b.Leaves, (b.Leaves.length : Int), (i : Int), ()), (a.2, b, zeroR, ()), ()))
    (fun a w => Sum.inl (a.1 ++ [⟨w, findR a.2 w⟩], Arr.put a.2 (findR a.2 w) zeroE)) (fun i todo a => canLeave a.2 todo ∧ a.1.length = i) (fun a => ((since, base, (), (), (), a.1, (), ()), (a.2, b, zeroR, ()), ()))
    (fun i x rest a _ hi hx ⟨ha, hal⟩ => by
      obtain ⟨s, hs, he, hon, hw, hn⟩ := canLeave_next ha
      refine ⟨fun a' ha' => ?_, ?_⟩
      · simp only [Sum.inl.injEq] at ha'
        subst ha'
        simp only [he]
        exact ⟨hn, by simp [hal]⟩
      · have h1 : (i : Int) < (b.Leaves.length : Int) := by omega
        have h2 : (a.1.length + 1) * 16 ≤ 140737488355328 := by omega
        have h3 : (s : Int) < 64 := by omega
        simp only [g_roster_Move_r1, h1, hx, he, h2, h3, decide_true, cond_true, Int.natCast_nonneg, Bool.and_self, wrap1' hi (by omega)]
        rfl)
    (fun a _ => by simp [g_roster_Move_r1]) b.Leaves 0 ([], r) rfl (by omega) ⟨hc, rfl⟩
  rw [leave_fold] at h
  simpa using h
theorem rmove_loop2 {left : List Co.Seat} {z : Roster} (hr : b.Joins.length ≤ freeN r) (hb : b.Joins ≠ [] → 1 ≤ base ∧ base ≤ 32768 - b.Joins.length) :
    lfp g_roster_Move_r2 ((since, base, (), (), (), left, [], (takeW (taken r) (b.Joins.length : Int)).1, ((takeW (taken r) (b.Joins.length : Int)).1.length : Int), 0, ()), (r, b, z, ()), ()) = some (((), (), left, (joinGo since b.Joins base r).2, ()), ((joinGo since b.Joins base r).1, z, ()), ()) := by
  have hlen : b.Joins.length ≤ 64 := Nat.le_trans hr (freeN_le r)
  have hcw := cntW_taken r
  have ht : (takeW (taken r) (b.Joins.length : Int)).1 = ((freeR r).take b.Joins.length).map fun (i : Nat) => (i : Int) := by
    unfold takeW
    have h1 : ¬ (b.Joins.length : Int) < 0 := by omega
    have h2 : ¬ 64 - cntW (taken r) < (b.Joins.length : Int) := by omega
    rw [if_neg h1, if_neg h2, freeL_taken, Int.toNat_natCast]
  have hfl : ((freeR r).take b.Joins.length).length = b.Joins.length := by rw [List.length_take, freeR_len]; omega
  rw [ht]
  have hsl : (((freeR r).take b.Joins.length).map fun (i : Nat) => (i : Int)).length = b.Joins.length := by rw [List.length_map, hfl]
  have hmem : ∀ x ∈ ((freeR r).take b.Joins.length).map (fun (i : Nat) => (i : Int)), 0 ≤ x ∧ x < 64 := fun x hx => by
    obtain ⟨i, hi, rfl⟩ := List.mem_map.1 hx
    have := List.mem_of_mem_take hi
    unfold freeR at this
    simp only [List.mem_filter, List.mem_range] at this
    omega
  have h := lfp_list (f := g_roster_Move_r2) (((freeR r).take b.Joins.length).map fun (i : Nat) => (i : Int)) (fun i (a : JA) => ((since, base, (), (), (), left, a.2.1, ((freeR r).take b.Joins.length).map (fun (i : Nat) => (i : Int)), ((((freeR r).take b.Joins.length).map (fun (i : Nat) => (i : Int))).length : Int), (i : Int), ()), (a.1, b, z, ()), ()))
    (joinStep since base) (fun i todo a => a.2.1.length = i ∧ a.2.2 = b.Joins.drop i ∧ ∀ x ∈ todo, 0 ≤ x ∧ x < 64) (fun a => (((), (), left, a.2.1, ()), (a.1, z, ()), ()))
    (fun i x rest a hd hi hx ⟨ha, hal, hm⟩ => by
      have hij : i < b.Joins.length := by rw [hsl] at hi; exact hi
      obtain ⟨x0, x1⟩ := hm x (List.mem_cons_self ..)
      have hdr := List.drop_eq_getElem_cons hij
      have hh : a.2.2.headD 0 = lat b.Joins (i : Int) := by rw [hal, hdr, lat_nat _ _ hij]; rfl
      refine ⟨fun a' ha' => ?_, ?_⟩
      · simp only [joinStep, Sum.inl.injEq] at ha'
        subst ha'
        refine ⟨by simp [ha], ?_, fun y hy => hm y (List.mem_cons_of_mem _ hy)⟩
        show a.2.2.tail = _
        rw [hal, List.tail_drop]
      · have h1 : (i : Int) < (b.Joins.length : Int) := by omega
        have h2i : (i + 1) * 16 ≤ 140737488355328 := by omega
        have hb' := hb (fun e => by rw [e] at hij; simp at hij)
        have hw : IntKind.i64.wrap (base + (i : Int)) = base + (i : Int) := i64_in _ (by omega)
        simp only [g_roster_Move_r2, hsl, h1, hx, x0, x1, decide_true, cond_true, Int.natCast_nonneg, Bool.and_self, h2i, hw, ha, joinStep, hh, wrap1' hij (by omega)]
        rfl)
    (fun a _ => by simp [g_roster_Move_r2]) (((freeR r).take b.Joins.length).map fun (i : Nat) => (i : Int)) 0 (r, [], b.Joins) rfl (by omega) ⟨rfl, rfl, hmem⟩
  rw [joinS_fold since base _ b.Joins _ [] r hfl.symm] at h
  by_cases hne : b.Joins = []
  · rw [hne] at h ⊢
    simpa [joinS, joinGo] using h
  · have hb' := hb hne
    have hq := joinS_eq since b.Joins base r (by rw [freeR_len]; exact hr) hb'.1
    simp only [List.length_nil, Int.natCast_zero, Int.add_zero, List.nil_append] at h
    rw [hq] at h
    exact h
end
theorem eq_roster_Move : Eqs c_roster_Move g_roster_Move := Eqs.tot fun (r, b, since, base, _) hf => by
  change Int at since base
  change Batch at b
  have zr : (Vector.replicate 64 (St.zero St.entry) : Roster) = zeroR := rfl
  show g_roster_Move (r, b, since, base, ()) = some ((move r b since base).r, (move r b since base).left, (move r b since base).joined, (move r b since base).e, ())
  simp only [g_roster_Move, zr]
  by_cases h0 : fits r b = 0
  case neg =>
    have : move r b since base = ⟨zeroR, [], [], fits r b⟩ := by simp [move, h0]
    simp only [h0, this, decide_false, Bool.not_false, cond_true]
  obtain ⟨hroom, hJ, hL⟩ := move_room h0
  have hcl := canLeave_of (fits_ok h0).2.1
  by_cases h1 : since < 1
  · have g : ¬ 1 ≤ since := by omega
    have : move r b since base = ⟨zeroR, [], [], 19⟩ := by simp [move, h0, g]
    simp only [h0, h1, this, decide_true, Bool.not_true, cond_true, cond_false]
  by_cases h2 : 200 < since
  · have g : ¬ since ≤ 200 := by omega
    have : move r b since base = ⟨zeroR, [], [], 19⟩ := by simp [move, h0, g]
    simp only [h0, h1, h2, this, decide_true, decide_false, Bool.not_true, cond_true, cond_false]
  have g1 : 1 ≤ since := by omega
  have g2 : since ≤ 200 := by omega
  have g3 : (b.Joins.length : Int) ≤ 64 := by omega
  simp only [h0, h1, h2, g3, Int.natCast_nonneg, Bool.and_self, decide_true, decide_false, Bool.not_true, cond_true, cond_false, Option.bind_some]
  have hm : move r b since base = bif namesFree r base (b.Joins.length : Int) then moveGo r b since base else ⟨zeroR, [], [], 3⟩ := by
    unfold move
    simp only [h0, g1, g2, decide_true, cond_true, Bool.and_self]
  rw [hm]
  cases hn : namesFree r base (b.Joins.length : Int) with
  | false => rfl
  | true =>
    simp only [Bool.not_true, cond_true, cond_false]
    rw [rmove_loop1 hcl (by omega)]
    simp only [Option.bind_some]
    rw [rmove_loop2 hroom fun hne => by
      unfold namesFree at hn
      have hl : ¬ (b.Joins.length : Int) = 0 := fun e => hne (List.length_eq_zero_iff.1 (by omega))
      simp only [hl, decide_false, Bool.false_or, Bool.and_eq_true, decide_eq_true_eq] at hn
      exact hn.1]
    rfl
end Go.Co.N
end

section
namespace Go.Co.N
open Go Go.Co

theorem replaced_small (l : List Co.Seat) : 0 ≤ replaced l ∧ replaced l < 2097152 := by
  unfold replaced
  have := word_lt (fun v => l.any fun s => below v (leaf s.Slot)) 21
  have h2 : (2 : Nat) ^ 21 = 2097152 := by decide
  omega
theorem nextT_full {t : Tree} {b : Batch} (hg : goodTree t = true) (he : t.Epoch ≠ 200) (hfi : fits t.Roster b = 0)
    (hf : 32768 - cntTo (replaced (goneOf t.Roster b.Leaves)) 21 - (b.Joins.length : Int) < t.Fresh) : nextT t b = ⟨zeroT, [], [], 3⟩ := by
  obtain ⟨e0, e1, f0, f1, hk, _, hks, _⟩ := goodTree_iff.1 hg
  have hm := (replaced_small (goneOf t.Roster b.Leaves)).2
  have hc := cntTo_le (replaced (goneOf t.Roster b.Leaves)) 21
  by_cases ht : (stepTurn t b).2.2 = 0
  · have hfr := turn_fresh ht
    obtain ⟨_, _, hfree, _, _⟩ := turn_ok ht
    have hb : (stepTurn t b).2.1 = t.Fresh + cntTo (replaced (goneOf t.Roster b.Leaves)) 21 := hfr
    have hle : t.Fresh + cntTo (replaced (goneOf t.Roster b.Leaves)) 21 ≤ 32768 := by
      rcases free_cnt hfree with h0 | ⟨_, h0, _⟩ <;> omega
    have hj : ¬ (b.Joins.length : Int) = 0 := by omega
    have hlt : ¬ (t.Fresh + cntTo (replaced (goneOf t.Roster b.Leaves)) 21) ≤ 32768 - (b.Joins.length : Int) := by omega
    have hn : namesFree t.Roster (stepTurn t b).2.1 (b.Joins.length : Int) = false := by
      rw [hb]
      unfold namesFree
      rw [decide_eq_false hj, decide_eq_false hlt]
      simp
    have s1 : 1 ≤ t.Epoch + 1 := by omega
    have s2 : t.Epoch + 1 ≤ 200 := by omega
    have hmv : stepMove t b = ⟨zeroR, [], [], 3⟩ := by
      unfold stepMove move
      rw [hn]
      simp [hfi, s1, s2]
    simp [nextT, hg, he, hfi, ht, hmv]
  · have he3 : (stepTurn t b).2.2 = 3 := by
      unfold stepTurn turn at ht ⊢
      have hstp : allN 21 (fun v => inB (replaced (goneOf t.Roster b.Leaves)) v || decide (stp t.Keys v < 255)) = true := allN_iff.2 fun v hv => by
        have := (hks v hv).2
        have : stp t.Keys v < 255 := by omega
        simp [this]
      rw [hstp] at ht ⊢
      simp only [hk, hm, decide_true, cond_true] at ht ⊢
      cases hfr : free t.Keys t.Fresh (cntTo (replaced (goneOf t.Roster b.Leaves)) 21) with
      | true => rw [hfr] at ht; exact absurd rfl ht
      | false => rfl
    simp [nextT, hg, he, hfi, he3]
theorem eq_plan_step : Eqs c_plan_step g_plan_step := Eqs.tot fun (t, b, _) _ => by
  change Tree at t
  change Batch at b
  have zt : (Tree.mk 0 0 (Vector.replicate 21 (St.zero St.key)) (Vector.replicate 64 (St.zero St.entry))) = zeroT := rfl
  show g_plan_step (t, b, ()) = some ((nextT t b).t, ⟨(nextT t b).t.Epoch, (nextT t b).left, (nextT t b).joined, []⟩, (nextT t b).e, ())
  simp only [g_plan_step, zt]
  by_cases hg : goodTree t = true
  case neg =>
    have hc : ¬ chkT t = 0 := fun e => hg (chkT_0.1 e)
    have h31 : chkT t = 31 := by simp [chkT, hg]
    have : nextT t b = ⟨zeroT, [], [], 31⟩ := by simp [nextT, hg]
    simp only [this, h31]; rfl
  have hc : chkT t = 0 := chkT_0.2 hg
  by_cases he : t.Epoch = 200
  · have : nextT t b = ⟨zeroT, [], [], 19⟩ := by simp [nextT, hg, he]
    simp only [hc, he, this, decide_true, Bool.not_true, cond_true, cond_false]; rfl
  by_cases hfi : fits t.Roster b = 0
  case neg =>
    have : nextT t b = ⟨zeroT, [], [], fits t.Roster b⟩ := by simp [nextT, hg, he, hfi]
    simp only [hc, he, hfi, this, decide_true, decide_false, Bool.not_true, Bool.not_false, cond_true, cond_false]; rfl
  obtain ⟨hroom, hJ, hL⟩ := move_room hfi
  obtain ⟨e0, e1, f0, f1, hk, _, hks, _⟩ := goodTree_iff.1 hg
  have hm := replaced_small (goneOf t.Roster b.Leaves)
  have hcn := cntTo_le (replaced (goneOf t.Roster b.Leaves)) 21
  have h32 : cntTo (replaced (goneOf t.Roster b.Leaves)) 32 = cntTo (replaced (goneOf t.Roster b.Leaves)) 21 := cntTo_small hm.1 (k := 21) (by omega) 11
  simp only [hc, he, hfi, hL, decide_true, decide_false, Bool.not_true, cond_true, cond_false, Option.bind_some, h32]
  rw [i64_in (32768 - cntTo (replaced (goneOf t.Roster b.Leaves)) 21) (by omega), i64_in (32768 - cntTo (replaced (goneOf t.Roster b.Leaves)) 21 - (b.Joins.length : Int)) (by omega), i64_in (t.Epoch + 1) (by omega)]
  by_cases hfull : 32768 - cntTo (replaced (goneOf t.Roster b.Leaves)) 21 - (b.Joins.length : Int) < t.Fresh
  · rw [nextT_full hg he hfi hfull]
    simp only [hfull, decide_true, cond_true]; rfl
  simp only [hfull, decide_false, cond_false]
  have hst : turn t.Keys (replaced (goneOf t.Roster b.Leaves)) t.Fresh = stepTurn t b := rfl
  simp only [hst]
  by_cases ht : (stepTurn t b).2.2 = 0
  case neg =>
    have : nextT t b = ⟨zeroT, [], [], (stepTurn t b).2.2⟩ := by simp [nextT, hg, he, hfi, ht]
    simp only [ht, this, decide_false, Bool.not_false, cond_true]; rfl
  have hmv : move t.Roster b (t.Epoch + 1) (stepTurn t b).2.1 = stepMove t b := rfl
  simp only [ht, hmv, decide_true, Bool.not_true, cond_false]
  by_cases hme : (stepMove t b).e = 0
  case neg =>
    have : nextT t b = ⟨zeroT, [], [], (stepMove t b).e⟩ := by simp [nextT, hg, he, hfi, ht, hme]
    simp only [hme, this, decide_false, Bool.not_false, cond_true]; rfl
  have hfr : (stepTurn t b).2.1 = t.Fresh + cntTo (replaced (goneOf t.Roster b.Leaves)) 21 := turn_fresh ht
  have hjl : (stepMove t b).joined.length = b.Joins.length := by
    unfold stepMove
    rw [(move_joined hme).1, moveGo]
    exact joinGo_len _ _ _ _
  have : nextT t b = ⟨⟨t.Epoch + 1, (stepTurn t b).2.1 + (stepMove t b).joined.length, (stepTurn t b).1, (stepMove t b).r⟩, (stepMove t b).left, (stepMove t b).joined, 0⟩ := by simp [nextT, hg, he, hfi, ht, hme]
  rw [this]
  simp only [hme, decide_true, Bool.not_true, cond_false]
  rw [i64_in _ (by rw [hfr, hjl]; omega)]
theorem eq_law12_three : Eqs c_law12_three g_law12_three := Eqs.tot fun _ _ => rfl
theorem eq_law12_lives : Eqs c_law12_lives g_law12_lives := Eqs.tot fun _ _ => rfl
end Go.Co.N
end

section
namespace Go.Co.N
open Go Go.Co

theorem belowR_leaf {r : Roster} {v : Int} (hb : belowR r v = true) (hv : 21 ≤ v) (hv2 : v < 85) : ∃ s : Nat, s < 64 ∧ v = leaf s ∧ isOn r s = true := by
  obtain ⟨s, hs, hb⟩ := anyN_iff.1 hb
  simp only [Bool.and_eq_true] at hb
  obtain ⟨k, hk⟩ := Int.eq_ofNat_of_zero_le (show 0 ≤ v - 21 by omega)
  have hvk : v = ((21 + k : Nat) : Int) := by omega
  have := allN_iff.1 (allN_iff.1 below_leaf k (by omega)) s hs
  simp only [decide_eq_true_eq] at this
  rw [hvk, this] at hb
  simp only [decide_eq_true_eq] at hb
  obtain ⟨h1, rfl⟩ := hb
  exact ⟨k, hs, by rw [leaf_in hs]; omega, h1⟩
theorem child_nat {v i : Nat} (hv : v < 21) (hi : i < 4) : child v i = ((4 * v + 1 + i : Nat) : Int) := by unfold child; rw [if_pos ⟨by omega, by omega, by omega, by omega⟩]; omega
theorem good_childT {t : Tree} (hg : goodTree t = true) {v : Nat} {i : Nat} (hv : v < 21) (hi : i < 4) (hb : belowR t.Roster (child v i) = true) : good (keyN t (child v i)) = true := by
  have hc := child_nat hv hi
  by_cases hlt : 4 * v + 1 + i < 21
  · rw [hc]; exact good_inner hg hlt
  · obtain ⟨s, hs, he, hon⟩ := belowR_leaf hb (by omega) (by omega)
    rw [he]; exact good_leafK hg hs hon
theorem nodeK_eq (t : Tree) {v : Int} (h0 : 0 ≤ v) (h1 : v ≤ 84) : nodeK t v = keyN t v := by
  obtain ⟨n, rfl⟩ := Int.eq_ofNat_of_zero_le h0
  unfold nodeK slot
  by_cases h : n < 21
  · have : ¬ (21 ≤ (n : Int) ∧ (n : Int) < 85) := by omega
    rw [if_neg this, keyN_inner t h]; rfl
  · have : 21 ≤ (n : Int) ∧ (n : Int) < 85 := by omega
    have h2 : 0 ≤ (n : Int) - 21 := by omega
    rw [if_pos this, decide_eq_true h2]
    have he : (n : Int) = leaf ((n - 21 : Nat) : Int) := by rw [leaf_in (by omega)]; omega
    have hs : (n : Int) - 21 = ((n - 21 : Nat) : Int) := by omega
    rw [hs, cond_true, he, keyN_leaf t (by omega)]
theorem maskR_below (r : Roster) (v : Int) : (!decide (bw .and .u64 (mask v) (taken r) = 0)) = belowR r v := by
  unfold taken mask belowR
  rw [word_and]
  refine bool_eq ?_
  simp only [Bool.not_eq_true', decide_eq_false_iff_not, anyN_iff]
  constructor
  · intro h
    refine Classical.byContradiction fun hn => h ?_
    have : word (fun i => below v (leaf i) && isOn r i) 64 = 0 := by
      have : word (fun i => below v (leaf i) && isOn r i) 64 = word (fun _ => false) 64 := word_congr 64 fun i hi => by
        cases hq : (below v (leaf i) && isOn r i) with
        | false => rfl
        | true => exact absurd ⟨i, hi, by rw [Bool.and_comm]; exact hq⟩ hn
      rw [this]; exact (by decide : word (fun _ => false) 64 = 0)
    rw [this]; rfl
  · rintro ⟨i, hi, hb⟩ h
    have hz : word (fun i => below v (leaf i) && isOn r i) 64 = 0 := by omega
    have := word_bit (fun i => below v (leaf i) && isOn r i) 64 i
    rw [hz] at this
    rw [Bool.and_comm] at hb
    simp [hi, hb] at this
theorem seal_item {t : Tree} {v fr : Int} (h1 : good (keyN t fr) = true) (h2 : good (keyN t v) = true) : sealK (keyN t fr) (keyN t v) = ((itemOf t v fr).Box, 0) := by
  unfold sealK itemOf
  rw [h1, h2]; rfl
section
variable {t : Tree} {m : Rekey} (hg : goodTree t = true)
include hg
theorem pitems_loop2 {M : Int} (h0 : 0 ≤ M) (h1 : M ≤ 4294967295) {acc : List Co.Item} {v : Nat} (hv : v < 21) (h : acc.length ≤ 1000) :
    lfp g_plan_items_r2 (((), (), (), taken t.Roster, M, (v : Int), 0, ()), (t, m, acc, ()), ()) = some (((), (), (), taken t.Roster, M, (v : Int), ()), (t, m, acc ++ nodeItems t M v, ()), ()) := by
  have hb : decide (bw .and .u32 (shrI .u32 M (IntKind.u64.wrap (v : Int))) 1 = 1) = inB M v := by
    rw [Go.IntWalk.u64_in _ (by omega)]; exact bit_in M v h0 h1 (by omega) (by omega)
  unfold nodeItems
  cases hin : inB M v with
  | false => rw [hin] at hb; exact lfp_inr (by simp only [g_plan_items_r2, hb, cond_false, List.append_nil])
  | true =>
    rw [hin] at hb
    rw [lfp_run' (fun i => (((), (), (), taken t.Roster, M, (v : Int), (i : Int), ()), (t, m, acc ++ kidItems t v i, ()), ())) 4 (by simp [kidItems]) fun i hi => by
      have h1 : (i : Int) < 4 := by omega
      have hl := kidItems_len t v i
      have h2 : ((acc ++ kidItems t v i).length + 1) * 48 ≤ 140737488355328 := by rw [List.length_append]; omega
      have hc := child_nat hv hi
      have b1 : betw (child v i) 0 84 = true := betw_iff.2 (by omega)
      have b2 : betw (v : Int) 0 84 = true := betw_iff.2 (by omega)
      simp only [g_plan_items_r2, hb, h1, decide_true, cond_true, wrap1 i (by omega), kidItems_succ, maskR_below]
      cases hbr : belowR t.Roster (child v i) with
      | false => simp
      | true =>
        have hs := seal_item (good_childT hg hv hi hbr) (good_inner hg hv)
        simp only [cond_true, b1, b2, Option.bind_some, nodeK_eq t (show 0 ≤ child v i by omega) (show child v i ≤ 84 by omega), nodeK_eq t (show 0 ≤ (v : Int) by omega) (show (v : Int) ≤ 84 by omega), hs, decide_true, h2]
        rw [← List.append_assoc]
        rfl]
    exact lfp_inr (by simp [g_plan_items_r2, hb, kidItems])
theorem pitems_loop1 {M : Int} (h0 : 0 ≤ M) (h1 : M ≤ 4294967295) : ∀ (n : Nat) (acc : List Co.Item), n ≤ 21 → acc.length ≤ 4 * (21 - n) →
    lfp g_plan_items_r1 (((), (), (), taken t.Roster, M, (n : Int) - 1, ()), (t, m, acc, ()), ()) = some (((), (), (), M, ()), (t, m, acc ++ itemsUp t M n, ()), ())
  | 0, acc, _, _ => by
    simp only [itemsUp, List.append_nil]
    exact lfp_inr (by simp [g_plan_items_r1])
  | n + 1, acc, hn, ha => by
    have hl := nodeItems_len t M n
    have e1 : ((n + 1 : Nat) : Int) - 1 = (n : Int) := by omega
    rw [e1, lfp_inl (x' := (((), (), (), taken t.Roster, M, (n : Int) - 1, ()), (t, m, acc ++ nodeItems t M n, ()), ())) (by
      have hw : IntKind.i64.wrap ((n : Int) - 1) = (n : Int) - 1 := i64_in _ (by omega)
      simp only [g_plan_items_r1, Int.natCast_nonneg, decide_true, cond_true, pitems_loop2 hg h0 h1 (m := m) (acc := acc) (v := n) (by omega) (by omega), Option.bind_some, hw])]
    rw [pitems_loop1 h0 h1 n (acc ++ nodeItems t M n) (by omega) (by rw [List.length_append]; omega)]
    simp [itemsUp]
theorem pitems_loop4 {M : Int} (h0 : 0 ≤ M) (h1 : M ≤ 4294967295) {acc : List Co.Item} {s : Co.Seat} {k : Nat} (hk : k < 64) (hs : s.Slot = k) (hon : isOn t.Roster k = true) {j : List Co.Seat} {d e : Int} (h : acc.length ≤ 1000) :
    lfp g_plan_items_r4 (((), (), M, (), j, d, e, pathG s.Slot, 0, ()), (t, acc, s, ()), ()) = some (((), (), M, j, d, e, ()), (t, acc ++ joinItems t M s.Slot, ()), ()) := by
  have hlf := good_leafK hg hk hon
  have b1 : betw (leaf s.Slot) 0 84 = true := betw_iff.2 (by rw [hs, leaf_in hk]; omega)
  have hl0 : 0 ≤ leaf s.Slot ∧ leaf s.Slot ≤ 84 := by rw [hs, leaf_in hk]; omega
  rw [lfp_run' (fun i => (((), (), M, (), j, d, e, pathG s.Slot, (i : Int), ()), (t, acc ++ legItems t M s.Slot i, s, ()), ())) 3 (by simp [legItems]) fun i hi => by
    have g1 : (i : Int) < 3 := by omega
    have hl := legItems_len t M s.Slot i
    have h2 : ((acc ++ legItems t M s.Slot i).length + 1) * 48 ≤ 140737488355328 := by rw [List.length_append]; omega
    obtain ⟨v, hv, hv2, _⟩ := path_at hk i hi
    have hp : Arr.get (pathG s.Slot) (i : Int) = (v : Int) := by rw [hs, pathG_at hk i hi, hv]
    have b2 : betw (v : Int) 0 84 = true := betw_iff.2 (by omega)
    have hb : decide (bw .and .u32 (shrI .u32 M (IntKind.u64.wrap (v : Int))) 1 = 0) = !inB M v := by
      rw [Go.IntWalk.u64_in _ (by omega)]
      have hq := bit_in M v h0 h1 (by omega) (by omega)
      rw [← hq]
      rw [shr_u32 M v (by omega) (by omega)]
      have hle : 0 ≤ M / 2 ^ (v : Int).toNat ∧ M / 2 ^ (v : Int).toNat ≤ 4294967295 := ⟨Int.ediv_nonneg h0 (Int.pow_nonneg (by omega)), Int.le_trans (Int.ediv_le_self _ h0) h1⟩
      rw [bw_and_one _ hle.1 hle.2]
      refine bool_eq ?_
      simp only [decide_eq_true_eq, Bool.not_eq_true', decide_eq_false_iff_not]
      omega
    simp only [g_plan_items_r4, g1, decide_true, cond_true, Int.natCast_nonneg, Bool.and_self, hp, hb, wrap1 i (by omega), legItems_succ]
    cases hin : inB M (v : Int) with
    | true => simp
    | false =>
      have hse := seal_item (t := t) (v := (v : Int)) (fr := leaf s.Slot) (by rw [hs]; exact hlf) (good_inner hg hv2)
      simp only [Bool.not_false, cond_true, b1, b2, Option.bind_some, nodeK_eq t hl0.1 hl0.2, nodeK_eq t (show 0 ≤ (v : Int) by omega) (show (v : Int) ≤ 84 by omega), hse, decide_true, h2]
      rw [← List.append_assoc]
      rfl]
  exact lfp_inr (by simp [g_plan_items_r4, legItems, joinItems])
end
theorem eq_plan_items : Eqs c_plan_items g_plan_items := fun (t, m, _) y hf h => by
  change Tree at t
  change Rekey at m
  obtain ⟨hc, h⟩ := guardK_some h
  rw [← h]
  show g_plan_items (t, m, ()) = some (items t m.Leaves m.Joins, ())
  have hc : calls t m = true := hc
  unfold calls at hc
  simp only [Bool.and_eq_true, decide_eq_true_eq, List.all_eq_true] at hc
  obtain ⟨⟨hg, hj⟩, hon⟩ := hc
  have hm := replaced_small m.Leaves
  simp only [g_plan_items]
  have h1 := pitems_loop1 hg (m := m) hm.1 (by omega) 21 [] (by omega) (by simp)
  rw [show ((21 : Nat) : Int) - 1 = 20 from rfl] at h1
  rw [h1]
  simp only [List.nil_append, Option.bind_some]
  have hu := itemsUp_len t (replaced m.Leaves) 21
  have hloop := lfp_list (f := g_plan_items_r3) m.Joins (fun i (a : List Co.Item) => (((), (), replaced m.Leaves, m.Joins, (m.Joins.length : Int), (i : Int), ()), (t, a, ()), ()))
    (fun a s => Sum.inl (a ++ joinItems t (replaced m.Leaves) s.Slot)) (fun i todo a => a.length ≤ 84 + 3 * i ∧ ∀ s ∈ todo, betw s.Slot 0 63 = true ∧ isOn t.Roster s.Slot.toNat = true) (fun a => (((), ()), (a, ()), ()))
    (fun i x rest a _ hi hx ⟨ha, hon⟩ => by
      refine ⟨fun a' ha' => ?_, ?_⟩
      · simp only [Sum.inl.injEq] at ha'
        subst ha'
        have := legItems_len t (replaced m.Leaves) x.Slot 3
        refine ⟨?_, fun s hs => hon s (List.mem_cons_of_mem _ hs)⟩
        rw [List.length_append, show joinItems t (replaced m.Leaves) x.Slot = legItems t (replaced m.Leaves) x.Slot 3 from rfl]; omega
      · have g1 : (i : Int) < (m.Joins.length : Int) := by omega
        obtain ⟨o1, o2⟩ := hon x (List.mem_cons_self ..)
        have o1 := betw_iff.1 o1
        have hl4 := pitems_loop4 hg (M := replaced m.Leaves) hm.1 (by omega) (acc := a) (s := x) (k := x.Slot.toNat) (by omega) (by omega) o2 (j := m.Joins) (d := (m.Joins.length : Int)) (e := (i : Int)) (by omega)
        simp only [g_plan_items_r3, g1, hx, decide_true, cond_true, Int.natCast_nonneg, Bool.and_self]
        rw [show (bif decide (0 ≤ leaf x.Slot) then pathN x.Slot else zero3) = pathG x.Slot from rfl, hl4]
        simp only [Option.bind_some, wrap1' hi (by omega)])
    (fun a _ => by simp [g_plan_items_r3]) m.Joins 0 (itemsUp t (replaced m.Leaves) 21) rfl (by omega) ⟨by omega, hon⟩
  rw [join_items_fold] at hloop
  rw [show lfp g_plan_items_r3 (((), (), replaced m.Leaves, m.Joins, (m.Joins.length : Int), 0, ()), (t, itemsUp t (replaced m.Leaves) 21, ()), ()) = _ from hloop]
  rfl
theorem calls_next {t : Tree} {b : Batch} (h : (nextT t b).e = 0) (e : Int) (l : List Co.Seat) (i : List Co.Item) : calls (nextT t b).t ⟨e, l, (nextT t b).joined, i⟩ = true := by
  obtain ⟨h1, _, h2, _⟩ := nextT_joined h
  unfold calls
  simp only [Bool.and_eq_true, decide_eq_true_eq, List.all_eq_true]
  refine ⟨⟨nx_good h, by rw [h1]; exact h2⟩, fun s hs => ?_⟩
  obtain ⟨k, hk, he, hon, _⟩ := joined_on h hs
  rw [he]
  exact ⟨betw_iff.2 (by omega), by rw [Int.toNat_natCast]; exact hon⟩
theorem eq_plan_Next : Eqs c_plan_Next g_plan_Next := Eqs.tot fun (t, b, _) _ => by
  change Tree at t
  change Batch at b
  show g_plan_Next (t, b, ()) = some ((nextR t b).1, (nextR t b).2.1, (nextR t b).2.2, ())
  simp only [g_plan_Next]
  by_cases h : (nextT t b).e = 0
  · rw [nextR_is h, calls_next h]
    simp only [h, decide_true, Bool.not_true, cond_true, cond_false, Option.bind_some]
    rfl
  · have hr : nextR t b = (zeroT, St.zero .rekey, (nextT t b).e) := by unfold nextR; rw [decide_eq_false h]; rfl
    simp only [h, decide_false, Bool.not_false, cond_true, hr]; rfl
end Go.Co.N
end

section
namespace Go.Co.N
open Go Go.Co

end Go.Co.N
end

section
namespace Go.Co.N
open Go Go.Co

/-- Each name from lo to hi was seen once, no other. -/
def SpanM (h : List (Int × Int)) (lo hi : Int) : Prop := ∀ x, mget h x = if lo ≤ x ∧ x < hi then some 1 else none
def seeI (h : List (Int × Int)) (x : Int) : List (Int × Int) := mput h x (IntKind.wrap IntKind.i64 (Option.getD (mget h x) 0 + 1))
theorem SpanM.nil (a : Int) : SpanM [] a a := fun x => by
  have : ¬ (a ≤ x ∧ x < a) := by omega
  rw [if_neg this]; rfl
theorem SpanM.see {h : List (Int × Int)} {lo hi x : Int} (hs : SpanM h lo hi) (hx : ¬ (lo ≤ x ∧ x < hi)) (c : Int) : mget (seeI h x) c = if x = c then some 1 else if lo ≤ c ∧ c < hi then some 1 else none := by
  unfold seeI
  rw [mget_mput, hs x, if_neg hx, hs c]
  rfl
theorem SpanM.down {h : List (Int × Int)} {lo hi : Int} (hs : SpanM h lo hi) (hle : lo ≤ hi) : SpanM (seeI h (lo - 1)) (lo - 1) hi := fun c => by
  rw [hs.see (by omega)]
  by_cases h1 : lo - 1 = c
  · rw [if_pos h1, if_pos (by omega)]
  · by_cases h2 : lo ≤ c ∧ c < hi
    · rw [if_neg h1, if_pos h2, if_pos (by omega)]
    · rw [if_neg h1, if_neg h2, if_neg (by omega)]
theorem SpanM.up {h : List (Int × Int)} {lo hi : Int} (hs : SpanM h lo hi) (hle : lo ≤ hi) : SpanM (seeI h hi) lo (hi + 1) := fun c => by
  rw [hs.see (by omega)]
  by_cases h1 : hi = c
  · rw [if_pos h1, if_pos (by omega)]
  · by_cases h2 : lo ≤ c ∧ c < hi
    · rw [if_neg h1, if_pos h2, if_pos (by omega)]
    · rw [if_neg h1, if_neg h2, if_neg (by omega)]
end Go.Co.N
end

section
namespace Go.Co.N
open Go Go.Co

end Go.Co.N
end

section
set_option maxRecDepth 100000
noncomputable section
namespace Go.Co.N
open Go Go.Co
end Go.Co.N
end
end

section
namespace Go.Co.N
open Go Go.Co

section
variable {t : Tree} {b : Batch} (h : (nextT t b).e = 0)
include h
end
end Go.Co.N
end

section
namespace Go.Co.N
open Go Go.Co

end Go.Co.N
end

section
namespace Go.Co.N
open Go Go.Co

section
variable {t : Tree} {b : Batch} (h : (nextT t b).e = 0)
include h
end

/-! ### Derived keys -/
abbrev Names := List (Int × Int)
/-- Of each name the least step. -/
def addD (h : Names) (k : Key) : Names := bif !(mget h k.Base).isSome then mput h k.Base k.Step else bif decide (k.Step < (mget h k.Base).getD 0) then mput h k.Base k.Step else h
/-- Each name that is known is one of these keys. -/
def OfKeys (P : Key → Prop) (h : Names) : Prop := ∀ n s, mget h n = some s → P ⟨n, s⟩
theorem OfKeys.nil (P : Key → Prop) : OfKeys P [] := fun n s h => by simp [mget] at h
theorem OfKeys.put {P : Key → Prop} {h : Names} (hh : OfKeys P h) {k : Key} (hk : P k) : OfKeys P (mput h k.Base k.Step) := fun n s hs => by
  rw [mget_mput] at hs
  by_cases he : k.Base = n
  · rw [if_pos he] at hs
    cases hs; subst he; exact hk
  · rw [if_neg he] at hs; exact hh n s hs
theorem OfKeys.add {P : Key → Prop} {h : Names} (hh : OfKeys P h) {k : Key} (hk : P k) : OfKeys P (addD h k) := by
  unfold addD
  cases (mget h k.Base).isSome with
  | false => exact hh.put hk
  | true => cases decide (k.Step < (mget h k.Base).getD 0) with
    | true => exact hh.put hk
    | false => exact hh
end Go.Co.N
end

section
namespace Go.Co.N
open Go Go.Co

/-! ### The loops -/
/-! ### Who left -/
/-! ### Who joins -/
end Go.Co.N
end

section
namespace Go.Co.N
open Go Go.Co

abbrev c_law12_PlanMemory : Con := ⟨[.st .tree, .st .batch], [.bool], fun x => guardK (decide (List.length x.2.1.Leaves * 8 ≤ 140737488351232) && decide (List.length x.2.1.Joins * 8 ≤ 140737488351232)) (some (true, ()))⟩
end Go.Co.N
end

section
set_option maxRecDepth 100000
noncomputable section
namespace Go.Co.N
open Go Go.Co
end Go.Co.N
end
end

section
namespace Go.Co.N
open Go Go.Co

/-! ### Seats' nodes -/
/-! ### Refusals -/
def whoOf (x : Int) : Int := IntKind.wrap IntKind.i64 (Int.tmod (IntKind.wrap IntKind.u64 x) 256)
theorem whoOf_in (x : Int) : 0 ≤ whoOf x ∧ whoOf x < 256 := tmod_wrap x 256 (by omega) (by omega)
/-- The people that are taken of a list. -/
structure Picked (r : Roster) (on : Bool) (base l : List Int) (h : Names) : Prop where
  nodup : l.Nodup
  mem : ∀ w ∈ l, 0 ≤ w ∧ w < 256 ∧ w ∉ base ∧ (0 ≤ findR r w ↔ on = true)
  seen : ∀ w, (mget h w).getD 0 = 0 ↔ w ∉ base ∧ w ∉ l
def pickS (r : Roster) (on : Bool) (a : List Int × Names) (x : Int) : List Int × Names :=
  bif decide ((mget a.2 (whoOf x)).getD 0 = 0) && (bif on then decide (0 ≤ findR r (whoOf x)) else decide (findR r (whoOf x) < 0)) then (a.1 ++ [whoOf x], mput a.2 (whoOf x) 1) else a
theorem Picked.step {r : Roster} {on : Bool} {base l : List Int} {h : Names} (hp : Picked r on base l h) (x : Int) : Picked r on base (pickS r on (l, h) x).1 (pickS r on (l, h) x).2 := by
  unfold pickS
  cases hc : (decide ((mget h (whoOf x)).getD 0 = 0) && (bif on then decide (0 ≤ findR r (whoOf x)) else decide (findR r (whoOf x) < 0))) with
  | false => exact hp
  | true =>
    simp only [Bool.and_eq_true, decide_eq_true_eq] at hc
    obtain ⟨h1, h2⟩ := hc
    obtain ⟨h3, h4⟩ := (hp.seen _).1 h1
    have hw := whoOf_in x
    refine ⟨?_, fun w hw' => ?_, fun w => ?_⟩
    · show (l ++ [whoOf x]).Nodup
      rw [List.nodup_append]
      exact ⟨hp.nodup, by simp, fun a ha b hb => by simp at hb; subst hb; rintro rfl; exact h4 ha⟩
    · have hw' : w ∈ l ++ [whoOf x] := hw'
      rcases List.mem_append.1 hw' with hw' | hw'
      · exact hp.mem w hw'
      · simp at hw'; subst hw'
        refine ⟨hw.1, hw.2, h3, ?_⟩
        cases on with
        | true => simpa using h2
        | false =>
          have h2 : findR r (whoOf x) < 0 := by simpa using h2
          constructor
          · intro; omega
          · intro h; cases h
    · show (mget (mput h (whoOf x) 1) w).getD 0 = 0 ↔ w ∉ base ∧ w ∉ l ++ [whoOf x]
      rw [mget_mput]
      by_cases he : whoOf x = w
      · rw [if_pos he]
        subst he
        simp
      · rw [if_neg he, hp.seen]
        simp only [List.mem_append, List.mem_singleton, not_or]
        exact ⟨fun ⟨a, b⟩ => ⟨a, b, fun e => he e.symm⟩, fun ⟨a, b, _⟩ => ⟨a, b⟩⟩
theorem Picked.len {r : Roster} {on : Bool} {base l : List Int} {h : Names} (hp : Picked r on base l h) : l.length ≤ 256 := nodup_le 256 l hp.nodup fun x hx => by
  obtain ⟨h1, h2, _⟩ := hp.mem x hx
  exact ⟨h1, h2⟩
theorem Picked.all {r : Roster} {on : Bool} {base : List Int} : ∀ (xs : List Int) (a : List Int × Names), Picked r on base a.1 a.2 → Picked r on base (xs.foldl (pickS r on) a).1 (xs.foldl (pickS r on) a).2
  | [], _, hp => hp
  | x :: xs, (_, _), hp => Picked.all xs _ (hp.step x)
end Go.Co.N
end

section
set_option maxRecDepth 100000
noncomputable section
namespace Go.Co.N
open Go Go.Co
def g_law12_PlanMemory_r1 : (Unit × Unit × Unit × Unit × Int × Int × Unit) × ((Int × Unit × Unit × Unit × Unit) × Unit) × List Co.Item × Unit → Option (((Unit × Unit × Unit × Unit × Int × Int × Unit) × ((Int × Unit × Unit × Unit × Unit) × Unit) × List Co.Item × Unit) ⊕ ((Unit × Unit × Unit × Unit × Unit) × ((Int × Unit × Unit × Unit × Unit) × Unit) × List Co.Item × Unit))
  | ((_, _, _, _, a, b, _), ((c, _, _, _, _), _), d, _) => bif decide (b < a) then bif decide (0 ≤ b) && decide (b < (↑(List.length d) : Int)) then some (Sum.inl (((), (), (), (), a, IntKind.wrap IntKind.i64 (b + 1), ()), ((c, (), (), (), ()), ()), lput d b (Item.mk (-1) 0 (St.zero St.box)), ())) else none else some (Sum.inr (((), (), (), (), ()), ((c, (), (), (), ()), ()), d, ()))
def g_law12_PlanMemory_r2 : (Unit × Unit × Unit × Unit × Int × Int × Unit) × ((Int × Unit × Unit × Unit × Unit) × Unit) × List Seat × Unit → Option (((Unit × Unit × Unit × Unit × Int × Int × Unit) × ((Int × Unit × Unit × Unit × Unit) × Unit) × List Seat × Unit) ⊕ ((Unit × Unit × Unit × Unit × Unit) × ((Int × Unit × Unit × Unit × Unit) × Unit) × List Seat × Unit))
  | ((_, _, _, _, a, b, _), ((c, _, _, _, _), _), d, _) => bif decide (b < a) then bif decide (0 ≤ b) && decide (b < (↑(List.length d) : Int)) then some (Sum.inl (((), (), (), (), a, IntKind.wrap IntKind.i64 (b + 1), ()), ((c, (), (), (), ()), ()), lput d b (Seat.mk (-2) 0), ())) else none else some (Sum.inr (((), (), (), (), ()), ((c, (), (), (), ()), ()), d, ()))
def g_law12_PlanMemory_r3 : (Unit × Unit × Unit × Unit × Int × Int × Unit) × ((Int × Unit × Unit × Unit × Unit) × Unit) × List Seat × Unit → Option (((Unit × Unit × Unit × Unit × Int × Int × Unit) × ((Int × Unit × Unit × Unit × Unit) × Unit) × List Seat × Unit) ⊕ ((Unit × Unit × Unit × Unit × Unit) × ((Int × Unit × Unit × Unit × Unit) × Unit) × List Seat × Unit))
  | ((_, _, _, _, a, b, _), ((c, _, _, _, _), _), d, _) => bif decide (b < a) then bif decide (0 ≤ b) && decide (b < (↑(List.length d) : Int)) then some (Sum.inl (((), (), (), (), a, IntKind.wrap IntKind.i64 (b + 1), ()), ((c, (), (), (), ()), ()), lput d b (Seat.mk (-3) 0), ())) else none else some (Sum.inr (((), (), (), (), ()), ((c, (), (), (), ()), ()), d, ()))
def g_law12_PlanMemory_r4 : (Unit × Unit × Unit × Unit × Int × Int × Unit) × ((Int × Int × Unit) × Unit) × List Int × Unit → Option (((Unit × Unit × Unit × Unit × Int × Int × Unit) × ((Int × Int × Unit) × Unit) × List Int × Unit) ⊕ ((Unit × Unit × Unit × Unit × Unit) × ((Int × Int × Unit) × Unit) × List Int × Unit))
  | ((_, _, _, _, a, b, _), ((c, d, _), _), e, _) => bif decide (b < a) then bif decide (0 ≤ b) && decide (b < c) then some (Sum.inl (((), (), (), (), a, IntKind.wrap IntKind.i64 (b + 1), ()), ((c, d, ()), ()), lput e b (-8), ())) else none else some (Sum.inr (((), (), (), (), ()), ((c, d, ()), ()), e, ()))
def g_law12_PlanMemory_r5 : (Unit × Unit × Unit × Unit × Int × Int × Unit) × ((Int × Int × Unit) × Unit) × List Int × Unit → Option (((Unit × Unit × Unit × Unit × Int × Int × Unit) × ((Int × Int × Unit) × Unit) × List Int × Unit) ⊕ ((Unit × Unit × Unit × Unit) × ((Int × Int × Unit) × Unit) × List Int × Unit))
  | ((_, _, _, _, a, b, _), ((c, d, _), _), e, _) => bif decide (b < a) then bif decide (0 ≤ b) && decide (b < d) then some (Sum.inl (((), (), (), (), a, IntKind.wrap IntKind.i64 (b + 1), ()), ((c, d, ()), ()), lput e b (-9), ())) else none else some (Sum.inr (((), (), (), ()), ((c, d, ()), ()), e, ()))
/-- coterie/coterielaw12.PlanMemory -/
def g_law12_PlanMemory : Tree × Batch × Unit → Option (Bool × Unit)
  | (a, b, _) => bif decide ((0 + List.length b.Leaves) * 8 ≤ 140737488355328) then bif decide ((List.length (List.append [] b.Leaves) + 1) * 8 ≤ 140737488355328) then bif decide ((0 + List.length b.Joins) * 8 ≤ 140737488355328) then bif decide ((List.length (List.append [] b.Joins) + 1) * 8 ≤ 140737488355328) then bif decide (0 ≤ (↑(List.length b.Leaves) : Int)) && decide ((↑(List.length b.Leaves) : Int) ≤ (↑(List.length (List.append (List.append [] b.Leaves) [-71])) : Int)) then bif decide (0 ≤ (↑(List.length b.Joins) : Int)) && decide ((↑(List.length b.Joins) : Int) ≤ (↑(List.length (List.append (List.append [] b.Joins) [-72])) : Int)) then bif !decide ((nextR a (Batch.mk (List.take (Int.toNat (↑(List.length b.Leaves) : Int)) (List.append (List.append [] b.Leaves) [-71])) (List.take (Int.toNat (↑(List.length b.Joins) : Int)) (List.append (List.append [] b.Joins) [-72])))).snd.snd = (nextR a b).snd.snd) then some (false, ()) else bif !decide ((nextR a (Batch.mk (List.take (Int.toNat (↑(List.length b.Leaves) : Int)) (List.append (List.append [] b.Leaves) [-71])) (List.take (Int.toNat (↑(List.length b.Joins) : Int)) (List.append (List.append [] b.Joins) [-72])))).snd.snd = (nextR a b).snd.snd) then some (false, ()) else bif !decide (List.take (Int.toNat (↑(List.length b.Leaves) : Int)) (List.append (List.append [] b.Leaves) [-71]) = b.Leaves) then some (false, ()) else bif !decide (List.take (Int.toNat (↑(List.length b.Joins) : Int)) (List.append (List.append [] b.Joins) [-72]) = b.Joins) then some (false, ()) else bif decide (0 ≤ IntKind.wrap IntKind.i64 ((↑(List.length (List.append (List.append [] b.Leaves) [-71])) : Int) - 1)) && decide (IntKind.wrap IntKind.i64 ((↑(List.length (List.append (List.append [] b.Leaves) [-71])) : Int) - 1) < (↑(List.length (List.append (List.append [] b.Leaves) [-71])) : Int)) then bif !decide (lat (List.append (List.append [] b.Leaves) [-71]) (IntKind.wrap IntKind.i64 ((↑(List.length (List.append (List.append [] b.Leaves) [-71])) : Int) - 1)) = -71) then some (false, ()) else bif decide (0 ≤ IntKind.wrap IntKind.i64 ((↑(List.length (List.append (List.append [] b.Joins) [-72])) : Int) - 1)) && decide (IntKind.wrap IntKind.i64 ((↑(List.length (List.append (List.append [] b.Joins) [-72])) : Int) - 1) < (↑(List.length (List.append (List.append [] b.Joins) [-72])) : Int)) then bif !decide (lat (List.append (List.append [] b.Joins) [-72]) (IntKind.wrap IntKind.i64 ((↑(List.length (List.append (List.append [] b.Joins) [-72])) : Int) - 1)) = -72) then some (false, ()) else Option.bind (lfp g_law12_PlanMemory_r1 (((), (), (), (), (↑(List.length (nextR a (Batch.mk (List.take (Int.toNat (↑(List.length b.Leaves) : Int)) (List.append (List.append [] b.Leaves) [-71])) (List.take (Int.toNat (↑(List.length b.Joins) : Int)) (List.append (List.append [] b.Joins) [-72])))).snd.fst.Items) : Int), 0, ()), (((nextR a (Batch.mk (List.take (Int.toNat (↑(List.length b.Leaves) : Int)) (List.append (List.append [] b.Leaves) [-71])) (List.take (Int.toNat (↑(List.length b.Joins) : Int)) (List.append (List.append [] b.Joins) [-72])))).snd.fst.Epoch, (), (), (), ()), ()), (nextR a (Batch.mk (List.take (Int.toNat (↑(List.length b.Leaves) : Int)) (List.append (List.append [] b.Leaves) [-71])) (List.take (Int.toNat (↑(List.length b.Joins) : Int)) (List.append (List.append [] b.Joins) [-72])))).snd.fst.Items, ())) fun z => Option.bind (lfp g_law12_PlanMemory_r2 (((), (), (), (), (↑(List.length (nextR a (Batch.mk (List.take (Int.toNat (↑(List.length b.Leaves) : Int)) (List.append (List.append [] b.Leaves) [-71])) (List.take (Int.toNat (↑(List.length b.Joins) : Int)) (List.append (List.append [] b.Joins) [-72])))).snd.fst.Leaves) : Int), 0, ()), ((z.snd.fst.fst.fst, (), (), (), ()), ()), (nextR a (Batch.mk (List.take (Int.toNat (↑(List.length b.Leaves) : Int)) (List.append (List.append [] b.Leaves) [-71])) (List.take (Int.toNat (↑(List.length b.Joins) : Int)) (List.append (List.append [] b.Joins) [-72])))).snd.fst.Leaves, ())) fun z_1 => Option.bind (lfp g_law12_PlanMemory_r3 (((), (), (), (), (↑(List.length (nextR a (Batch.mk (List.take (Int.toNat (↑(List.length b.Leaves) : Int)) (List.append (List.append [] b.Leaves) [-71])) (List.take (Int.toNat (↑(List.length b.Joins) : Int)) (List.append (List.append [] b.Joins) [-72])))).snd.fst.Joins) : Int), 0, ()), ((z_1.snd.fst.fst.fst, (), (), (), ()), ()), (nextR a (Batch.mk (List.take (Int.toNat (↑(List.length b.Leaves) : Int)) (List.append (List.append [] b.Leaves) [-71])) (List.take (Int.toNat (↑(List.length b.Joins) : Int)) (List.append (List.append [] b.Joins) [-72])))).snd.fst.Joins, ())) fun z_2 => bif decide ((List.length z.snd.snd.fst + 1) * 48 ≤ 140737488355328) then bif decide ((List.length z_1.snd.snd.fst + 1) * 16 ≤ 140737488355328) then bif decide ((List.length z_2.snd.snd.fst + 1) * 16 ≤ 140737488355328) then Option.bind (lfp g_law12_PlanMemory_r4 (((), (), (), (), (↑(List.length b.Leaves) : Int), 0, ()), (((↑(List.length b.Leaves) : Int), (↑(List.length b.Joins) : Int), ()), ()), List.append (List.append [] b.Leaves) [-71], ())) fun z => Option.bind (lfp g_law12_PlanMemory_r5 (((), (), (), (), z.snd.fst.fst.snd.fst, 0, ()), ((z.snd.fst.fst.fst, z.snd.fst.fst.snd.fst, ()), ()), List.append (List.append [] b.Joins) [-72], ())) fun _ => bif decide (Rekey.mk (nextR a (Batch.mk (List.take (Int.toNat (↑(List.length b.Leaves) : Int)) (List.append (List.append [] b.Leaves) [-71])) (List.take (Int.toNat (↑(List.length b.Joins) : Int)) (List.append (List.append [] b.Joins) [-72])))).snd.fst.Epoch (nextR a (Batch.mk (List.take (Int.toNat (↑(List.length b.Leaves) : Int)) (List.append (List.append [] b.Leaves) [-71])) (List.take (Int.toNat (↑(List.length b.Joins) : Int)) (List.append (List.append [] b.Joins) [-72])))).snd.fst.Leaves (nextR a (Batch.mk (List.take (Int.toNat (↑(List.length b.Leaves) : Int)) (List.append (List.append [] b.Leaves) [-71])) (List.take (Int.toNat (↑(List.length b.Joins) : Int)) (List.append (List.append [] b.Joins) [-72])))).snd.fst.Joins (nextR a (Batch.mk (List.take (Int.toNat (↑(List.length b.Leaves) : Int)) (List.append (List.append [] b.Leaves) [-71])) (List.take (Int.toNat (↑(List.length b.Joins) : Int)) (List.append (List.append [] b.Joins) [-72])))).snd.fst.Items = (nextR a b).snd.fst) then bif decide (0 ≤ IntKind.wrap IntKind.i64 ((↑(List.length (List.append z_2.snd.snd.fst [Seat.mk (-6) 0])) : Int) - 1)) && decide (IntKind.wrap IntKind.i64 ((↑(List.length (List.append z_2.snd.snd.fst [Seat.mk (-6) 0])) : Int) - 1) < (↑(List.length (List.append z_2.snd.snd.fst [Seat.mk (-6) 0])) : Int)) then some (decide ((lat (List.append z_2.snd.snd.fst [Seat.mk (-6) 0]) (IntKind.wrap IntKind.i64 ((↑(List.length (List.append z_2.snd.snd.fst [Seat.mk (-6) 0])) : Int) - 1))).Who = -6), ()) else none else some (false, ()) else none else none else none else none else none else none else none else none else none else none else none
end Go.Co.N
end
end

section
namespace Go.Co.N
open Go Go.Co

def fillL {α : Type} (d : List α) (x : α) : Nat → List α
  | 0 => d
  | i + 1 => lput (fillL d x i) (i : Int) x
theorem fillL_len {α : Type} (d : List α) (x : α) : ∀ i, (fillL d x i).length = d.length
  | 0 => rfl
  | i + 1 => by simp [fillL, lput, fillL_len d x i]
theorem lat_last {α : Type} [Inhabited α] (l : List α) (x : α) : lat (l ++ [x]) (l.length : Int) = x := by
  rw [lat_nat _ _ (by simp)]; simp
theorem mem_lfp1 (c : Int) (d : List Co.Item) (hd : d.length ≤ 1000000) : lfp g_law12_PlanMemory_r1 (((), (), (), (), (d.length : Int), 0, ()), ((c, (), (), (), ()), ()), d, ()) =
    some (((), (), (), (), ()), ((c, (), (), (), ()), ()), fillL d (Item.mk (-1) 0 (St.zero St.box)) d.length, ()) := by
  rw [lfp_run' (fun i => (((), (), (), (), (d.length : Int), (i : Int), ()), ((c, (), (), (), ()), ()), fillL d (Item.mk (-1) 0 (St.zero St.box)) i, ())) d.length (by simp [fillL]) fun i hi => by
    have g1 : (i : Int) < (d.length : Int) := by omega
    simp only [g_law12_PlanMemory_r1, g1, fillL_len, decide_true, cond_true, Int.natCast_nonneg, Bool.and_self, wrap1' hi (by omega), fillL]]
  exact lfp_inr (by simp [g_law12_PlanMemory_r1])
theorem mem_lfp2 (c : Int) (d : List Co.Seat) (hd : d.length ≤ 1000000) : lfp g_law12_PlanMemory_r2 (((), (), (), (), (d.length : Int), 0, ()), ((c, (), (), (), ()), ()), d, ()) =
    some (((), (), (), (), ()), ((c, (), (), (), ()), ()), fillL d (Seat.mk (-2) 0) d.length, ()) := by
  rw [lfp_run' (fun i => (((), (), (), (), (d.length : Int), (i : Int), ()), ((c, (), (), (), ()), ()), fillL d (Seat.mk (-2) 0) i, ())) d.length (by simp [fillL]) fun i hi => by
    have g1 : (i : Int) < (d.length : Int) := by omega
    simp only [g_law12_PlanMemory_r2, g1, fillL_len, decide_true, cond_true, Int.natCast_nonneg, Bool.and_self, wrap1' hi (by omega), fillL]]
  exact lfp_inr (by simp [g_law12_PlanMemory_r2])
theorem mem_lfp3 (c : Int) (d : List Co.Seat) (hd : d.length ≤ 1000000) : lfp g_law12_PlanMemory_r3 (((), (), (), (), (d.length : Int), 0, ()), ((c, (), (), (), ()), ()), d, ()) =
    some (((), (), (), (), ()), ((c, (), (), (), ()), ()), fillL d (Seat.mk (-3) 0) d.length, ()) := by
  rw [lfp_run' (fun i => (((), (), (), (), (d.length : Int), (i : Int), ()), ((c, (), (), (), ()), ()), fillL d (Seat.mk (-3) 0) i, ())) d.length (by simp [fillL]) fun i hi => by
    have g1 : (i : Int) < (d.length : Int) := by omega
    simp only [g_law12_PlanMemory_r3, g1, fillL_len, decide_true, cond_true, Int.natCast_nonneg, Bool.and_self, wrap1' hi (by omega), fillL]]
  exact lfp_inr (by simp [g_law12_PlanMemory_r3])
theorem mem_lfp4 (n : Nat) (k : Int) (d : List Int) (hn : n ≤ 9223372036854775807) : lfp g_law12_PlanMemory_r4 (((), (), (), (), (n : Int), 0, ()), (((n : Int), k, ()), ()), d, ()) =
    some (((), (), (), (), ()), (((n : Int), k, ()), ()), fillL d (-8) n, ()) := by
  rw [lfp_run' (fun i => (((), (), (), (), (n : Int), (i : Int), ()), (((n : Int), k, ()), ()), fillL d (-8) i, ())) n (by simp [fillL]) fun i hi => by
    have g1 : (i : Int) < (n : Int) := by omega
    simp only [g_law12_PlanMemory_r4, g1, decide_true, cond_true, Int.natCast_nonneg, Bool.and_self, wrap1' hi hn, fillL]]
  exact lfp_inr (by simp [g_law12_PlanMemory_r4])
theorem mem_lfp5 (n : Nat) (k : Int) (d : List Int) (hn : n ≤ 9223372036854775807) : lfp g_law12_PlanMemory_r5 (((), (), (), (), (n : Int), 0, ()), ((k, (n : Int), ()), ()), d, ()) =
    some (((), (), (), ()), ((k, (n : Int), ()), ()), fillL d (-9) n, ()) := by
  rw [lfp_run' (fun i => (((), (), (), (), (n : Int), (i : Int), ()), ((k, (n : Int), ()), ()), fillL d (-9) i, ())) n (by simp [fillL]) fun i hi => by
    have g1 : (i : Int) < (n : Int) := by omega
    simp only [g_law12_PlanMemory_r5, g1, decide_true, cond_true, Int.natCast_nonneg, Bool.and_self, wrap1' hi hn, fillL]]
  exact lfp_inr (by simp [g_law12_PlanMemory_r5])
theorem nextR_lens (t : Tree) (b : Batch) : (nextR t b).2.1.Items.length ≤ 276 ∧ (nextR t b).2.1.Leaves.length ≤ 64 ∧ (nextR t b).2.1.Joins.length ≤ 64 := by
  by_cases h : (nextT t b).e = 0
  · rw [nextR_is h]
    have := nextT_joined h
    have h2 : (msgOf t b).Items.length ≤ 276 := items_len h
    refine ⟨h2, ?_, ?_⟩
    · show (nextT t b).left.length ≤ 64; omega
    · show (nextT t b).joined.length ≤ 64; omega
  · have : nextR t b = (zeroT, St.zero .rekey, (nextT t b).e) := by rw [nextR_eq, decide_eq_false h]; rfl
    rw [this]
    exact ⟨Nat.zero_le _, Nat.zero_le _, Nat.zero_le _⟩
theorem eq_law12_PlanMemory : Eqs c_law12_PlanMemory g_law12_PlanMemory := fun (t, b, _) y hf h => by
  change Tree at t
  change Batch at b
  obtain ⟨hg, hy⟩ := guardK_some h
  cases hy
  simp only [Bool.and_eq_true, decide_eq_true_eq] at hg
  obtain ⟨hl, hj⟩ := hg
  have hl : b.Leaves.length * 8 ≤ 140737488351232 := hl
  have hj : b.Joins.length * 8 ≤ 140737488351232 := hj
  have a1 : (0 + b.Leaves.length) * 8 ≤ 140737488355328 := by omega
  have a2 : (b.Leaves.length + 1) * 8 ≤ 140737488355328 := by omega
  have a3 : (0 + b.Joins.length) * 8 ≤ 140737488355328 := by omega
  have a4 : (b.Joins.length + 1) * 8 ≤ 140737488355328 := by omega
  have e1 : ∀ l : List Int, List.append [] l = l := fun _ => rfl
  have e2 : ∀ (l : List Int) (x : Int), List.append l [x] = l ++ [x] := fun _ _ => rfl
  have e3 : ∀ (l : List Int) (x : Int), (l ++ [x]).length = l.length + 1 := by simp
  have e4 : ∀ (l : List Int) (x : Int), List.take (Int.toNat (l.length : Int)) (l ++ [x]) = l := by simp
  have e5 : ∀ n : Nat, n * 8 ≤ 140737488351232 → IntKind.wrap IntKind.i64 (((n + 1 : Nat) : Int) - 1) = (n : Int) := fun n hn => by rw [i64_in _ (by omega)]; omega
  have g3 : ∀ n : Nat, (0 : Int) ≤ (n : Int) := by omega
  have g4 : ∀ n : Nat, (n : Int) ≤ ((n + 1 : Nat) : Int) := by omega
  have g5 : ∀ n : Nat, (n : Int) < ((n + 1 : Nat) : Int) := by omega
  have eb : Batch.mk b.Leaves b.Joins = b := rfl
  obtain ⟨n1, n2, n3⟩ := nextR_lens t b
  show g_law12_PlanMemory (t, b, ()) = some (true, ())
  simp only [g_law12_PlanMemory, e1, e2, e3, e4, e5 _ hl, e5 _ hj, eb, a1, a2, a3, a4, g3, g4, g5, lat_last, decide_true, Bool.and_self, cond_true, Bool.not_true, cond_false]
  rw [mem_lfp1 _ _ (by omega)]
  simp only [Option.bind_some]
  rw [mem_lfp2 _ _ (by omega)]
  simp only [Option.bind_some]
  rw [mem_lfp3 _ _ (by omega)]
  have c1 : ((fillL (nextR t b).2.1.Items (Item.mk (-1) 0 (St.zero St.box)) (nextR t b).2.1.Items.length).length + 1) * 48 ≤ 140737488355328 := by rw [fillL_len]; omega
  have c2 : ((fillL (nextR t b).2.1.Leaves (Seat.mk (-2) 0) (nextR t b).2.1.Leaves.length).length + 1) * 16 ≤ 140737488355328 := by rw [fillL_len]; omega
  have c3 : ((fillL (nextR t b).2.1.Joins (Seat.mk (-3) 0) (nextR t b).2.1.Joins.length).length + 1) * 16 ≤ 140737488355328 := by rw [fillL_len]; omega
  simp only [Option.bind_some, c1, c2, c3, decide_true, cond_true]
  rw [mem_lfp4 _ _ _ (by omega)]
  simp only [Option.bind_some]
  rw [mem_lfp5 _ _ _ (by omega)]
  simp only [Option.bind_some]
  have e6 : Rekey.mk (nextR t b).2.1.Epoch (nextR t b).2.1.Leaves (nextR t b).2.1.Joins (nextR t b).2.1.Items = (nextR t b).2.1 := rfl
  have e7 : ∀ l : List Co.Seat, List.append l [Seat.mk (-6) 0] = l ++ [Seat.mk (-6) 0] := fun _ => rfl
  have e8 : ∀ l : List Co.Seat, (l ++ [Seat.mk (-6) 0]).length = l.length + 1 := by simp
  have e9 : IntKind.wrap IntKind.i64 (((List.length (nextR t b).2.1.Joins + 1 : Nat) : Int) - 1) = ((nextR t b).2.1.Joins.length : Int) := by rw [i64_in _ (by omega)]; omega
  have e10 : lat (fillL (nextR t b).2.1.Joins (Seat.mk (-3) 0) (nextR t b).2.1.Joins.length ++ [Seat.mk (-6) 0]) ((nextR t b).2.1.Joins.length : Int) = Seat.mk (-6) 0 := by
    have := lat_last (fillL (nextR t b).2.1.Joins (Seat.mk (-3) 0) (nextR t b).2.1.Joins.length) (Seat.mk (-6) 0)
    rwa [fillL_len] at this
  simp only [e6, e7, e8, fillL_len, e9, e10, g3, g5, decide_true, Bool.and_self, cond_true]
end Go.Co.N
end

section
namespace Go.Proofs.YtplmbkgjaobhgaaDoor
open Go Go.Co Go.Co.N Go.Proofs
noncomputable def L_key_Good : List (Nat × LD) := []
noncomputable def Ls_key_Good : List (Nat × List (Nat × LD)) := []
noncomputable def B_key_Good : Bodies := []
theorem run_key_Good (x : denL [(.st .key)]) : run [] L_key_Good Ls_key_Good B_key_Good Tryd.f88 [(.st .key)] [.bool] x = g_key_Good x := by kernel_rfl
theorem ok_key_Good : ConOK Tryd.prog 88 c_key_Good := con_ok (ConsOK.nil) L_key_Good Ls_key_Good (B := B_key_Good) (BodiesOK.nil) Tryd.func88 rfl fun x y hf h => (run_key_Good x).trans (eq_key_Good x y hf h)
noncomputable def L_ref02_Good : List (Nat × LD) := []
noncomputable def Ls_ref02_Good : List (Nat × List (Nat × LD)) := []
noncomputable def B_ref02_Good : Bodies := []
theorem run_ref02_Good (x : denL [(.st .key)]) : run [] L_ref02_Good Ls_ref02_Good B_ref02_Good Tryd.f69 [(.st .key)] [.bool] x = g_ref02_Good x := by kernel_rfl
theorem ok_ref02_Good : ConOK Tryd.prog 69 c_ref02_Good := con_ok (ConsOK.nil) L_ref02_Good Ls_ref02_Good (B := B_ref02_Good) (BodiesOK.nil) Tryd.func69 rfl fun x y hf h => (run_ref02_Good x).trans (eq_ref02_Good x y hf h)
noncomputable def L_ref02_Ahead : List (Nat × LD) := [(6, ⟨⟨[(1, .hole .i), (2, .ptr 0 []), (4, .ptr 1 []), (6, .hole .i)], [(0, (.st .key), .hole (.st .key)), (1, (.st .key), .hole (.st .key))], []⟩, [(.exit 0, ⟨[(2, .ptr 0 []), (4, .ptr 1 [])], [(0, (.st .key), .hole (.st .key)), (1, (.st .key), .hole (.st .key))], []⟩)], 10, []⟩)]
noncomputable def Ls_ref02_Ahead : List (Nat × List (Nat × LD)) := []
noncomputable def B_ref02_Ahead : Bodies := []
theorem run_ref02_Ahead (x : denL [(.st .key), .i]) : run [(69, c_ref02_Good)] L_ref02_Ahead Ls_ref02_Ahead B_ref02_Ahead Tryd.f41 [(.st .key), .i] [(.st .key), .i] x = g_ref02_Ahead x := by kernel_rfl
theorem ok_ref02_Ahead : ConOK Tryd.prog 41 c_ref02_Ahead := con_ok (ConsOK.cons ok_ref02_Good (ConsOK.nil)) L_ref02_Ahead Ls_ref02_Ahead (B := B_ref02_Ahead) (BodiesOK.nil) Tryd.func41 rfl fun x y hf h => (run_ref02_Ahead x).trans (eq_ref02_Ahead x y hf h)
noncomputable def L_key_Ahead : List (Nat × LD) := []
noncomputable def Ls_key_Ahead : List (Nat × List (Nat × LD)) := []
noncomputable def B_key_Ahead : Bodies := []
theorem run_key_Ahead (x : denL [(.st .key), .i]) : run [(88, c_key_Good)] L_key_Ahead Ls_key_Ahead B_key_Ahead Tryd.f85 [(.st .key), .i] [(.st .key), .i] x = g_key_Ahead x := by kernel_rfl
theorem ok_key_Ahead : ConOK Tryd.prog 85 c_key_Ahead := con_ok (ConsOK.cons ok_key_Good (ConsOK.nil)) L_key_Ahead Ls_key_Ahead (B := B_key_Ahead) (BodiesOK.nil) Tryd.func85 rfl fun x y hf h => (run_key_Ahead x).trans (eq_key_Ahead x y hf h)
noncomputable def L_key_Seal : List (Nat × LD) := []
noncomputable def Ls_key_Seal : List (Nat × List (Nat × LD)) := []
noncomputable def B_key_Seal : Bodies := []
theorem run_key_Seal (x : denL [(.st .key), (.st .key)]) : run [(88, c_key_Good)] L_key_Seal Ls_key_Seal B_key_Seal Tryd.f63 [(.st .key), (.st .key)] [(.st .box), .i] x = g_key_Seal x := by kernel_rfl
theorem ok_key_Seal : ConOK Tryd.prog 63 c_key_Seal := con_ok (ConsOK.cons ok_key_Good (ConsOK.nil)) L_key_Seal Ls_key_Seal (B := B_key_Seal) (BodiesOK.nil) Tryd.func63 rfl fun x y hf h => (run_key_Seal x).trans (eq_key_Seal x y hf h)
noncomputable def L_ratchet_Check : List (Nat × LD) := [(3, ⟨⟨[(3, .mp 1), (7, .hole (.arr 21 (.st .key))), (8, .hole .i)], [], [(1, .i, .i)]⟩, [(.ret, ⟨[(2, .hole .i)], [], []⟩), (.exit 0, ⟨[], [], []⟩)], 11, []⟩)]
noncomputable def Ls_ratchet_Check : List (Nat × List (Nat × LD)) := []
noncomputable def B_ratchet_Check : Bodies := []
theorem run_ratchet_Check (x : denL [(.arr 21 (.st .key))]) : run [(88, c_key_Good)] L_ratchet_Check Ls_ratchet_Check B_ratchet_Check Tryd.f79 [(.arr 21 (.st .key))] [.i] x = g_ratchet_Check x := by kernel_rfl
theorem ok_ratchet_Check : ConOK Tryd.prog 79 c_ratchet_Check := con_ok (ConsOK.cons ok_key_Good (ConsOK.nil)) L_ratchet_Check Ls_ratchet_Check (B := B_ratchet_Check) (BodiesOK.nil) Tryd.func79 rfl fun x y hf h => (run_ratchet_Check x).trans (eq_ratchet_Check x y hf h)
noncomputable def L_ref10_Check : List (Nat × LD) := [(7, ⟨⟨[(1, .ptr 0 []), (3, .hole .i), (4, .hole .i)], [(0, (.arr 21 (.st .key)), .hole (.arr 21 (.st .key)))], []⟩, [(.ret, ⟨[(2, .hole .i)], [], []⟩), (.exit 2, ⟨[(1, .ptr 0 []), (3, .hole .i)], [(0, (.arr 21 (.st .key)), .hole (.arr 21 (.st .key)))], []⟩)], 10, []⟩), (2, ⟨⟨[(1, .ptr 0 []), (3, .hole .i)], [(0, (.arr 21 (.st .key)), .hole (.arr 21 (.st .key)))], []⟩, [(.ret, ⟨[(2, .hole .i)], [], []⟩), (.exit 0, ⟨[], [], []⟩)], 20, []⟩)]
noncomputable def Ls_ref10_Check : List (Nat × List (Nat × LD)) := []
noncomputable def B_ref10_Check : Bodies := []
theorem run_ref10_Check (x : denL [(.arr 21 (.st .key))]) : run [(69, c_ref02_Good)] L_ref10_Check Ls_ref10_Check B_ref10_Check Tryd.f45 [(.arr 21 (.st .key))] [.i] x = g_ref10_Check x := by kernel_rfl
theorem ok_ref10_Check : ConOK Tryd.prog 45 c_ref10_Check := con_ok (ConsOK.cons ok_ref02_Good (ConsOK.nil)) L_ref10_Check Ls_ref10_Check (B := B_ref10_Check) (BodiesOK.nil) Tryd.func45 rfl fun x y hf h => (run_ref10_Check x).trans (eq_ref10_Check x y hf h)
noncomputable def L_ratchet_free : List (Nat × LD) := [(6, ⟨⟨[(1, .hole .i), (2, .hole .i), (19, .hole (.arr 21 (.st .key))), (20, .hole .i)], [], []⟩, [(.ret, ⟨[(6, .hole .bool)], [], []⟩), (.exit 0, ⟨[], [], []⟩)], 11, []⟩)]
noncomputable def Ls_ratchet_free : List (Nat × List (Nat × LD)) := []
noncomputable def B_ratchet_free : Bodies := []
theorem run_ratchet_free (x : denL [(.arr 21 (.st .key)), .i, .i]) : run [] L_ratchet_free Ls_ratchet_free B_ratchet_free Tryd.f84 [(.arr 21 (.st .key)), .i, .i] [.bool] x = g_ratchet_free x := by kernel_rfl
theorem ok_ratchet_free : ConOK Tryd.prog 84 c_ratchet_free := con_ok (ConsOK.nil) L_ratchet_free Ls_ratchet_free (B := B_ratchet_free) (BodiesOK.nil) Tryd.func84 rfl fun x y hf h => (run_ratchet_free x).trans (eq_ratchet_free x y hf h)
noncomputable def L_ratchet_LeafAt : List (Nat × LD) := []
noncomputable def Ls_ratchet_LeafAt : List (Nat × List (Nat × LD)) := []
noncomputable def B_ratchet_LeafAt : Bodies := []
theorem run_ratchet_LeafAt (x : denL [(.st .entry), .i]) : run [(85, c_key_Ahead)] L_ratchet_LeafAt Ls_ratchet_LeafAt B_ratchet_LeafAt Tryd.f90 [(.st .entry), .i] [(.st .key), .i] x = g_ratchet_LeafAt x := by kernel_rfl
theorem ok_ratchet_LeafAt : ConOK Tryd.prog 90 c_ratchet_LeafAt := con_ok (ConsOK.cons ok_key_Ahead (ConsOK.nil)) L_ratchet_LeafAt Ls_ratchet_LeafAt (B := B_ratchet_LeafAt) (BodiesOK.nil) Tryd.func90 rfl fun x y hf h => (run_ratchet_LeafAt x).trans (eq_ratchet_LeafAt x y hf h)
noncomputable def L_ref10_LeafAt : List (Nat × LD) := []
noncomputable def Ls_ref10_LeafAt : List (Nat × List (Nat × LD)) := []
noncomputable def B_ref10_LeafAt : Bodies := []
theorem run_ref10_LeafAt (x : denL [(.st .entry), .i]) : run [] L_ref10_LeafAt Ls_ref10_LeafAt B_ref10_LeafAt Tryd.f43 [(.st .entry), .i] [(.st .key), .i] x = g_ref10_LeafAt x := by kernel_rfl
theorem ok_ref10_LeafAt : ConOK Tryd.prog 43 c_ref10_LeafAt := con_ok (ConsOK.nil) L_ref10_LeafAt Ls_ref10_LeafAt (B := B_ref10_LeafAt) (BodiesOK.nil) Tryd.func43 rfl fun x y hf h => (run_ref10_LeafAt x).trans (eq_ref10_LeafAt x y hf h)
noncomputable def L_bits_OnesCount32 : List (Nat × LD) := []
noncomputable def Ls_bits_OnesCount32 : List (Nat × List (Nat × LD)) := []
noncomputable def B_bits_OnesCount32 : Bodies := []
theorem run_bits_OnesCount32 (x : denL [(.int .u32)]) : run [] L_bits_OnesCount32 Ls_bits_OnesCount32 B_bits_OnesCount32 Tryd.f59 [(.int .u32)] [.i] x = g_bits_OnesCount32 x := by kernel_rfl
theorem ok_bits_OnesCount32 : ConOK Tryd.prog 59 c_bits_OnesCount32 := con_ok (ConsOK.nil) L_bits_OnesCount32 Ls_bits_OnesCount32 (B := B_bits_OnesCount32) (BodiesOK.nil) Tryd.func59 rfl fun x y hf h => (run_bits_OnesCount32 x).trans (eq_bits_OnesCount32 x y hf h)
noncomputable def L_ratchet_Turn : List (Nat × LD) := [(8, ⟨⟨[(1, .hole (.int .u32)), (2, .hole .i), (3, .ptr 0 []), (6, .ptr 1 []), (31, .hole .i)], [(0, (.arr 21 (.st .key)), .hole (.arr 21 (.st .key))), (1, (.arr 21 (.st .key)), .hole (.arr 21 (.st .key)))], []⟩, [(.ret, ⟨[(6, .ptr 1 []), (7, .hole .i), (8, .hole .i)], [(1, (.arr 21 (.st .key)), .hole (.arr 21 (.st .key)))], []⟩), (.exit 1, ⟨[(2, .hole .i), (3, .ptr 0 []), (6, .ptr 1 [])], [(0, (.arr 21 (.st .key)), .hole (.arr 21 (.st .key))), (1, (.arr 21 (.st .key)), .hole (.arr 21 (.st .key)))], []⟩)], 11, []⟩)]
noncomputable def Ls_ratchet_Turn : List (Nat × List (Nat × LD)) := []
noncomputable def B_ratchet_Turn : Bodies := []
theorem run_ratchet_Turn (x : denL [(.arr 21 (.st .key)), (.int .u32), .i]) : run [(79, c_ratchet_Check), (59, c_bits_OnesCount32), (84, c_ratchet_free), (85, c_key_Ahead)] L_ratchet_Turn Ls_ratchet_Turn B_ratchet_Turn Tryd.f60 [(.arr 21 (.st .key)), (.int .u32), .i] [(.arr 21 (.st .key)), .i, .i] x = g_ratchet_Turn x := by kernel_rfl
theorem ok_ratchet_Turn : ConOK Tryd.prog 60 c_ratchet_Turn := con_ok (ConsOK.cons ok_ratchet_Check (ConsOK.cons ok_bits_OnesCount32 (ConsOK.cons ok_ratchet_free (ConsOK.cons ok_key_Ahead (ConsOK.nil))))) L_ratchet_Turn Ls_ratchet_Turn (B := B_ratchet_Turn) (BodiesOK.nil) Tryd.func60 rfl fun x y hf h => (run_ratchet_Turn x).trans (eq_ratchet_Turn x y hf h)
noncomputable def L_ref01_In : List (Nat × LD) := [(4, ⟨⟨[(0, .hole (.int .u32)), (1, .hole .i), (5, .hole .i)], [], []⟩, [(.exit 0, ⟨[(0, .hole (.int .u32))], [], []⟩)], 10, []⟩)]
noncomputable def Ls_ref01_In : List (Nat × List (Nat × LD)) := []
noncomputable def B_ref01_In : Bodies := []
theorem run_ref01_In (x : denL [(.int .u32), .i]) : run [] L_ref01_In Ls_ref01_In B_ref01_In Tryd.f24 [(.int .u32), .i] [.bool] x = g_ref01_In x := by kernel_rfl
theorem ok_ref01_In : ConOK Tryd.prog 24 c_ref01_In := con_ok (ConsOK.nil) L_ref01_In Ls_ref01_In (B := B_ref01_In) (BodiesOK.nil) Tryd.func24 rfl fun x y hf h => (run_ref01_In x).trans (eq_ref01_In x y hf h)
noncomputable def L_ref10_count : List (Nat × LD) := [(3, ⟨⟨[(0, .hole (.int .u32)), (3, .hole .i), (4, .hole .i)], [], []⟩, [(.exit 0, ⟨[(3, .hole .i)], [], []⟩)], 10, []⟩)]
noncomputable def Ls_ref10_count : List (Nat × List (Nat × LD)) := []
noncomputable def B_ref10_count : Bodies := []
theorem run_ref10_count (x : denL [(.int .u32)]) : run [(24, c_ref01_In)] L_ref10_count Ls_ref10_count B_ref10_count Tryd.f94 [(.int .u32)] [.i] x = g_ref10_count x := by kernel_rfl
theorem ok_ref10_count : ConOK Tryd.prog 94 c_ref10_count := con_ok (ConsOK.cons ok_ref01_In (ConsOK.nil)) L_ref10_count Ls_ref10_count (B := B_ref10_count) (BodiesOK.nil) Tryd.func94 rfl fun x y hf h => (run_ref10_count x).trans (eq_ref10_count x y hf h)
noncomputable def L_ref10_Turn : List (Nat × LD) := [(4, ⟨⟨[(1, .hole (.int .u32)), (2, .hole .i), (3, .ptr 0 []), (6, .ptr 1 []), (9, .hole .i)], [(0, (.arr 21 (.st .key)), .hole (.arr 21 (.st .key))), (1, (.arr 21 (.st .key)), .hole (.arr 21 (.st .key)))], []⟩, [(.ret, ⟨[(6, .ptr 1 []), (7, .hole .i), (8, .hole .i)], [(1, (.arr 21 (.st .key)), .hole (.arr 21 (.st .key)))], []⟩), (.exit 0, ⟨[(1, .hole (.int .u32)), (2, .hole .i), (3, .ptr 0 []), (6, .ptr 1 [])], [(0, (.arr 21 (.st .key)), .hole (.arr 21 (.st .key))), (1, (.arr 21 (.st .key)), .hole (.arr 21 (.st .key)))], []⟩)], 10, []⟩), (12, ⟨⟨[(1, .hole (.int .u32)), (2, .hole .i), (3, .ptr 0 []), (6, .ptr 1 []), (10, .hole .i), (11, .hole .i)], [(0, (.arr 21 (.st .key)), .hole (.arr 21 (.st .key))), (1, (.arr 21 (.st .key)), .hole (.arr 21 (.st .key)))], []⟩, [(.ret, ⟨[(6, .ptr 1 []), (7, .hole .i), (8, .hole .i)], [(1, (.arr 21 (.st .key)), .hole (.arr 21 (.st .key)))], []⟩), (.exit 2, ⟨[(1, .hole (.int .u32)), (2, .hole .i), (3, .ptr 0 []), (6, .ptr 1 [])], [(0, (.arr 21 (.st .key)), .hole (.arr 21 (.st .key))), (1, (.arr 21 (.st .key)), .hole (.arr 21 (.st .key)))], []⟩)], 10, []⟩), (17, ⟨⟨[(1, .hole (.int .u32)), (2, .hole .i), (3, .ptr 0 []), (6, .ptr 1 []), (12, .hole .i)], [(0, (.arr 21 (.st .key)), .hole (.arr 21 (.st .key))), (1, (.arr 21 (.st .key)), .hole (.arr 21 (.st .key)))], []⟩, [(.ret, ⟨[(6, .ptr 1 []), (7, .hole .i), (8, .hole .i)], [(1, (.arr 21 (.st .key)), .hole (.arr 21 (.st .key)))], []⟩), (.exit 4, ⟨[(2, .hole .i), (3, .ptr 0 []), (6, .ptr 1 [])], [(0, (.arr 21 (.st .key)), .hole (.arr 21 (.st .key))), (1, (.arr 21 (.st .key)), .hole (.arr 21 (.st .key)))], []⟩)], 11, []⟩)]
noncomputable def Ls_ref10_Turn : List (Nat × List (Nat × LD)) := []
noncomputable def B_ref10_Turn : Bodies := []
theorem run_ref10_Turn (x : denL [(.arr 21 (.st .key)), (.int .u32), .i]) : run [(45, c_ref10_Check), (24, c_ref01_In), (94, c_ref10_count), (41, c_ref02_Ahead)] L_ref10_Turn Ls_ref10_Turn B_ref10_Turn Tryd.f74 [(.arr 21 (.st .key)), (.int .u32), .i] [(.arr 21 (.st .key)), .i, .i] x = g_ref10_Turn x := by kernel_rfl
theorem ok_ref10_Turn : ConOK Tryd.prog 74 c_ref10_Turn := con_ok (ConsOK.cons ok_ref10_Check (ConsOK.cons ok_ref01_In (ConsOK.cons ok_ref10_count (ConsOK.cons ok_ref02_Ahead (ConsOK.nil))))) L_ref10_Turn Ls_ref10_Turn (B := B_ref10_Turn) (BodiesOK.nil) Tryd.func74 rfl fun x y hf h => (run_ref10_Turn x).trans (eq_ref10_Turn x y hf h)
noncomputable def L_ref01_Node : List (Nat × LD) := []
noncomputable def Ls_ref01_Node : List (Nat × List (Nat × LD)) := []
noncomputable def B_ref01_Node : Bodies := []
theorem run_ref01_Node (x : denL [.i]) : run [] L_ref01_Node Ls_ref01_Node B_ref01_Node Tryd.f42 [.i] [.bool] x = g_ref01_Node x := by kernel_rfl
theorem ok_ref01_Node : ConOK Tryd.prog 42 c_ref01_Node := con_ok (ConsOK.nil) L_ref01_Node Ls_ref01_Node (B := B_ref01_Node) (BodiesOK.nil) Tryd.func42 rfl fun x y hf h => (run_ref01_Node x).trans (eq_ref01_Node x y hf h)
noncomputable def L_ref01_Child : List (Nat × LD) := []
noncomputable def Ls_ref01_Child : List (Nat × List (Nat × LD)) := []
noncomputable def B_ref01_Child : Bodies := []
theorem run_ref01_Child (x : denL [.i, .i]) : run [] L_ref01_Child Ls_ref01_Child B_ref01_Child Tryd.f70 [.i, .i] [.i] x = g_ref01_Child x := by kernel_rfl
theorem ok_ref01_Child : ConOK Tryd.prog 70 c_ref01_Child := con_ok (ConsOK.nil) L_ref01_Child Ls_ref01_Child (B := B_ref01_Child) (BodiesOK.nil) Tryd.func70 rfl fun x y hf h => (run_ref01_Child x).trans (eq_ref01_Child x y hf h)
noncomputable def L_ref01_Parent : List (Nat × LD) := [(7, ⟨⟨[(0, .hole .i), (3, .hole .i), (4, .hole .i)], [], []⟩, [(.ret, ⟨[(2, .hole .i)], [], []⟩), (.exit 2, ⟨[(0, .hole .i), (3, .hole .i)], [], []⟩)], 10, []⟩), (4, ⟨⟨[(0, .hole .i), (3, .hole .i)], [], []⟩, [(.ret, ⟨[(2, .hole .i)], [], []⟩), (.exit 0, ⟨[], [], []⟩)], 20, []⟩)]
noncomputable def Ls_ref01_Parent : List (Nat × List (Nat × LD)) := []
noncomputable def B_ref01_Parent : Bodies := []
theorem run_ref01_Parent (x : denL [.i]) : run [(70, c_ref01_Child)] L_ref01_Parent Ls_ref01_Parent B_ref01_Parent Tryd.f44 [.i] [.i] x = g_ref01_Parent x := by kernel_rfl
theorem ok_ref01_Parent : ConOK Tryd.prog 44 c_ref01_Parent := con_ok (ConsOK.cons ok_ref01_Child (ConsOK.nil)) L_ref01_Parent Ls_ref01_Parent (B := B_ref01_Parent) (BodiesOK.nil) Tryd.func44 rfl fun x y hf h => (run_ref01_Parent x).trans (eq_ref01_Parent x y hf h)
noncomputable def L_ref01_Leaf : List (Nat × LD) := []
noncomputable def Ls_ref01_Leaf : List (Nat × List (Nat × LD)) := []
noncomputable def B_ref01_Leaf : Bodies := []
theorem run_ref01_Leaf (x : denL [.i]) : run [] L_ref01_Leaf Ls_ref01_Leaf B_ref01_Leaf Tryd.f20 [.i] [.i] x = g_ref01_Leaf x := by kernel_rfl
theorem ok_ref01_Leaf : ConOK Tryd.prog 20 c_ref01_Leaf := con_ok (ConsOK.nil) L_ref01_Leaf Ls_ref01_Leaf (B := B_ref01_Leaf) (BodiesOK.nil) Tryd.func20 rfl fun x y hf h => (run_ref01_Leaf x).trans (eq_ref01_Leaf x y hf h)
noncomputable def L_ref01_Path : List (Nat × LD) := [(6, ⟨⟨[(2, .ptr 0 []), (4, .ptr 1 []), (5, .hole .i), (6, .hole .i)], [(0, (.arr 3 .i), .hole (.arr 3 .i)), (1, (.arr 3 .i), .hole (.arr 3 .i))], []⟩, [(.exit 0, ⟨[(2, .ptr 0 []), (4, .ptr 1 [])], [(0, (.arr 3 .i), .hole (.arr 3 .i)), (1, (.arr 3 .i), .hole (.arr 3 .i))], []⟩)], 10, []⟩)]
noncomputable def Ls_ref01_Path : List (Nat × List (Nat × LD)) := []
noncomputable def B_ref01_Path : Bodies := []
theorem run_ref01_Path (x : denL [.i]) : run [(20, c_ref01_Leaf), (44, c_ref01_Parent)] L_ref01_Path Ls_ref01_Path B_ref01_Path Tryd.f21 [.i] [(.arr 3 .i), .bool] x = g_ref01_Path x := by kernel_rfl
theorem ok_ref01_Path : ConOK Tryd.prog 21 c_ref01_Path := con_ok (ConsOK.cons ok_ref01_Leaf (ConsOK.cons ok_ref01_Parent (ConsOK.nil))) L_ref01_Path Ls_ref01_Path (B := B_ref01_Path) (BodiesOK.nil) Tryd.func21 rfl fun x y hf h => (run_ref01_Path x).trans (eq_ref01_Path x y hf h)
noncomputable def L_ref01_Below : List (Nat × LD) := [(3, ⟨⟨[(0, .hole .i), (1, .hole .i)], [], []⟩, [(.exit 0, ⟨[(0, .hole .i), (1, .hole .i)], [], []⟩)], 10, []⟩)]
noncomputable def Ls_ref01_Below : List (Nat × List (Nat × LD)) := []
noncomputable def B_ref01_Below : Bodies := []
theorem run_ref01_Below (x : denL [.i, .i]) : run [(42, c_ref01_Node), (44, c_ref01_Parent)] L_ref01_Below Ls_ref01_Below B_ref01_Below Tryd.f55 [.i, .i] [.bool] x = g_ref01_Below x := by kernel_rfl
theorem ok_ref01_Below : ConOK Tryd.prog 55 c_ref01_Below := con_ok (ConsOK.cons ok_ref01_Node (ConsOK.cons ok_ref01_Parent (ConsOK.nil))) L_ref01_Below Ls_ref01_Below (B := B_ref01_Below) (BodiesOK.nil) Tryd.func55 rfl fun x y hf h => (run_ref01_Below x).trans (eq_ref01_Below x y hf h)
noncomputable def L_shape_first : List (Nat × LD) := []
noncomputable def Ls_shape_first : List (Nat × List (Nat × LD)) := []
noncomputable def B_shape_first : Bodies := []
theorem run_shape_first (x : denL [.i]) : run [] L_shape_first Ls_shape_first B_shape_first Tryd.f78 [.i] [.i] x = g_shape_first x := by kernel_rfl
theorem ok_shape_first : ConOK Tryd.prog 78 c_shape_first := con_ok (ConsOK.nil) L_shape_first Ls_shape_first (B := B_shape_first) (BodiesOK.nil) Tryd.func78 rfl fun x y hf h => (run_shape_first x).trans (eq_shape_first x y hf h)
noncomputable def L_shape_Level : List (Nat × LD) := [(5, ⟨⟨[(0, .hole .i), (3, .hole .i)], [], []⟩, [(.ret, ⟨[(2, .hole .i)], [], []⟩)], 10, []⟩)]
noncomputable def Ls_shape_Level : List (Nat × List (Nat × LD)) := []
noncomputable def B_shape_Level : Bodies := []
theorem run_shape_Level (x : denL [.i]) : run [(78, c_shape_first)] L_shape_Level Ls_shape_Level B_shape_Level Tryd.f53 [.i] [.i] x = g_shape_Level x := by kernel_rfl
theorem ok_shape_Level : ConOK Tryd.prog 53 c_shape_Level := con_ok (ConsOK.cons ok_shape_first (ConsOK.nil)) L_shape_Level Ls_shape_Level (B := B_shape_Level) (BodiesOK.nil) Tryd.func53 rfl fun x y hf h => (run_shape_Level x).trans (eq_shape_Level x y hf h)
noncomputable def L_shape_span : List (Nat × LD) := []
noncomputable def Ls_shape_span : List (Nat × List (Nat × LD)) := []
noncomputable def B_shape_span : Bodies := []
theorem run_shape_span (x : denL [.i]) : run [(53, c_shape_Level), (78, c_shape_first)] L_shape_span Ls_shape_span B_shape_span Tryd.f54 [.i] [.i, .i] x = g_shape_span x := by kernel_rfl
theorem ok_shape_span : ConOK Tryd.prog 54 c_shape_span := con_ok (ConsOK.cons ok_shape_Level (ConsOK.cons ok_shape_first (ConsOK.nil))) L_shape_span Ls_shape_span (B := B_shape_span) (BodiesOK.nil) Tryd.func54 rfl fun x y hf h => (run_shape_span x).trans (eq_shape_span x y hf h)
noncomputable def L_shape_Mask : List (Nat × LD) := []
noncomputable def Ls_shape_Mask : List (Nat × List (Nat × LD)) := []
noncomputable def B_shape_Mask : Bodies := []
theorem run_shape_Mask (x : denL [.i]) : run [(53, c_shape_Level), (54, c_shape_span)] L_shape_Mask Ls_shape_Mask B_shape_Mask Tryd.f34 [.i] [(.int .u64)] x = g_shape_Mask x := by kernel_rfl
theorem ok_shape_Mask : ConOK Tryd.prog 34 c_shape_Mask := con_ok (ConsOK.cons ok_shape_Level (ConsOK.cons ok_shape_span (ConsOK.nil))) L_shape_Mask Ls_shape_Mask (B := B_shape_Mask) (BodiesOK.nil) Tryd.func34 rfl fun x y hf h => (run_shape_Mask x).trans (eq_shape_Mask x y hf h)
noncomputable def L_shape_Slot : List (Nat × LD) := []
noncomputable def Ls_shape_Slot : List (Nat × List (Nat × LD)) := []
noncomputable def B_shape_Slot : Bodies := []
theorem run_shape_Slot (x : denL [.i]) : run [] L_shape_Slot Ls_shape_Slot B_shape_Slot Tryd.f89 [.i] [.i] x = g_shape_Slot x := by kernel_rfl
theorem ok_shape_Slot : ConOK Tryd.prog 89 c_shape_Slot := con_ok (ConsOK.nil) L_shape_Slot Ls_shape_Slot (B := B_shape_Slot) (BodiesOK.nil) Tryd.func89 rfl fun x y hf h => (run_shape_Slot x).trans (eq_shape_Slot x y hf h)
noncomputable def L_shape_Child : List (Nat × LD) := []
noncomputable def Ls_shape_Child : List (Nat × List (Nat × LD)) := []
noncomputable def B_shape_Child : Bodies := []
theorem run_shape_Child (x : denL [.i, .i]) : run [] L_shape_Child Ls_shape_Child B_shape_Child Tryd.f66 [.i, .i] [.i] x = g_shape_Child x := by kernel_rfl
theorem ok_shape_Child : ConOK Tryd.prog 66 c_shape_Child := con_ok (ConsOK.nil) L_shape_Child Ls_shape_Child (B := B_shape_Child) (BodiesOK.nil) Tryd.func66 rfl fun x y hf h => (run_shape_Child x).trans (eq_shape_Child x y hf h)
noncomputable def L_shape_Leaf : List (Nat × LD) := []
noncomputable def Ls_shape_Leaf : List (Nat × List (Nat × LD)) := []
noncomputable def B_shape_Leaf : Bodies := []
theorem run_shape_Leaf (x : denL [.i]) : run [] L_shape_Leaf Ls_shape_Leaf B_shape_Leaf Tryd.f35 [.i] [.i] x = g_shape_Leaf x := by kernel_rfl
theorem ok_shape_Leaf : ConOK Tryd.prog 35 c_shape_Leaf := con_ok (ConsOK.nil) L_shape_Leaf Ls_shape_Leaf (B := B_shape_Leaf) (BodiesOK.nil) Tryd.func35 rfl fun x y hf h => (run_shape_Leaf x).trans (eq_shape_Leaf x y hf h)
noncomputable def L_shape_Path : List (Nat × LD) := [(5, ⟨⟨[(0, .hole .i), (2, .ptr 0 []), (4, .ptr 1 []), (11, .hole .i)], [(0, (.arr 3 .i), .hole (.arr 3 .i)), (1, (.arr 3 .i), .hole (.arr 3 .i))], []⟩, [(.exit 0, ⟨[(2, .ptr 0 []), (4, .ptr 1 [])], [(0, (.arr 3 .i), .hole (.arr 3 .i)), (1, (.arr 3 .i), .hole (.arr 3 .i))], []⟩)], 10, []⟩)]
noncomputable def Ls_shape_Path : List (Nat × List (Nat × LD)) := []
noncomputable def B_shape_Path : Bodies := []
theorem run_shape_Path (x : denL [.i]) : run [(35, c_shape_Leaf), (78, c_shape_first)] L_shape_Path Ls_shape_Path B_shape_Path Tryd.f67 [.i] [(.arr 3 .i), .bool] x = g_shape_Path x := by kernel_rfl
theorem ok_shape_Path : ConOK Tryd.prog 67 c_shape_Path := con_ok (ConsOK.cons ok_shape_Leaf (ConsOK.cons ok_shape_first (ConsOK.nil))) L_shape_Path Ls_shape_Path (B := B_shape_Path) (BodiesOK.nil) Tryd.func67 rfl fun x y hf h => (run_shape_Path x).trans (eq_shape_Path x y hf h)
noncomputable def L_shape_Above : List (Nat × LD) := [(3, ⟨⟨[(0, .hole (.int .u64)), (3, .hole (.int .u32)), (5, .hole .i)], [], []⟩, [(.exit 0, ⟨[(3, .hole (.int .u32))], [], []⟩)], 10, []⟩)]
noncomputable def Ls_shape_Above : List (Nat × List (Nat × LD)) := []
noncomputable def B_shape_Above : Bodies := []
theorem run_shape_Above (x : denL [(.int .u64)]) : run [(34, c_shape_Mask)] L_shape_Above Ls_shape_Above B_shape_Above Tryd.f36 [(.int .u64)] [(.int .u32)] x = g_shape_Above x := by kernel_rfl
theorem ok_shape_Above : ConOK Tryd.prog 36 c_shape_Above := con_ok (ConsOK.cons ok_shape_Mask (ConsOK.nil)) L_shape_Above Ls_shape_Above (B := B_shape_Above) (BodiesOK.nil) Tryd.func36 rfl fun x y hf h => (run_shape_Above x).trans (eq_shape_Above x y hf h)
noncomputable def L_roster_right : List (Nat × LD) := []
noncomputable def Ls_roster_right : List (Nat × List (Nat × LD)) := []
noncomputable def B_roster_right : Bodies := []
theorem run_roster_right (x : denL [(.st .entry)]) : run [] L_roster_right Ls_roster_right B_roster_right Tryd.f95 [(.st .entry)] [.bool] x = g_roster_right x := by kernel_rfl
theorem ok_roster_right : ConOK Tryd.prog 95 c_roster_right := con_ok (ConsOK.nil) L_roster_right Ls_roster_right (B := B_roster_right) (BodiesOK.nil) Tryd.func95 rfl fun x y hf h => (run_roster_right x).trans (eq_roster_right x y hf h)
noncomputable def L_roster_Check : List (Nat × LD) := [(3, ⟨⟨[(3, .mp 1), (4, .mp 2), (9, .hole (.arr 64 (.st .entry))), (10, .hole .i)], [], [(1, .i, .i), (2, .i, .i)]⟩, [(.ret, ⟨[(2, .hole .i)], [], []⟩), (.exit 0, ⟨[], [], []⟩)], 11, []⟩)]
noncomputable def Ls_roster_Check : List (Nat × List (Nat × LD)) := []
noncomputable def B_roster_Check : Bodies := []
theorem run_roster_Check (x : denL [(.arr 64 (.st .entry))]) : run [(95, c_roster_right)] L_roster_Check Ls_roster_Check B_roster_Check Tryd.f80 [(.arr 64 (.st .entry))] [.i] x = g_roster_Check x := by kernel_rfl
theorem ok_roster_Check : ConOK Tryd.prog 80 c_roster_Check := con_ok (ConsOK.cons ok_roster_right (ConsOK.nil)) L_roster_Check Ls_roster_Check (B := B_roster_Check) (BodiesOK.nil) Tryd.func80 rfl fun x y hf h => (run_roster_Check x).trans (eq_roster_Check x y hf h)
noncomputable def L_roster_Find : List (Nat × LD) := []
noncomputable def Ls_roster_Find : List (Nat × List (Nat × LD)) := [(96, [(2, ⟨⟨[(0, .asl 0 []), (1, .fn 97 [1]), (7, .hole .i), (8, .hole .i)], [(0, (.arr 64 (.st .entry)), .hole (.arr 64 (.st .entry))), (1, .i, .hole .i)], []⟩, [(.ret, ⟨[(4, .hole .i)], [(0, (.arr 64 (.st .entry)), .hole (.arr 64 (.st .entry))), (1, .i, .hole .i)], []⟩), (.exit 0, ⟨[], [(0, (.arr 64 (.st .entry)), .hole (.arr 64 (.st .entry))), (1, .i, .hole .i)], []⟩)], 10, []⟩)])]
noncomputable def B_roster_Find : Bodies := [bodyLine 97 Tryd.f97, bodyLine 96 Tryd.f96]
theorem run_roster_Find (x : denL [(.arr 64 (.st .entry)), .i]) : run [] L_roster_Find Ls_roster_Find B_roster_Find Tryd.f82 [(.arr 64 (.st .entry)), .i] [.i] x = g_roster_Find x := by kernel_rfl
theorem ok_roster_Find : ConOK Tryd.prog 82 c_roster_Find := con_ok (ConsOK.nil) L_roster_Find Ls_roster_Find (B := B_roster_Find) (BodiesOK.cons Tryd.func97 rfl (BodiesOK.cons Tryd.func96 rfl (BodiesOK.nil))) Tryd.func82 rfl fun x y hf h => (run_roster_Find x).trans (eq_roster_Find x y hf h)
noncomputable def L_roster_Taken : List (Nat × LD) := [(3, ⟨⟨[(3, .hole (.int .u64)), (6, .hole (.arr 64 (.st .entry))), (7, .hole .i)], [], []⟩, [(.exit 0, ⟨[(3, .hole (.int .u64))], [], []⟩)], 11, []⟩)]
noncomputable def Ls_roster_Taken : List (Nat × List (Nat × LD)) := []
noncomputable def B_roster_Taken : Bodies := []
theorem run_roster_Taken (x : denL [(.arr 64 (.st .entry))]) : run [] L_roster_Taken Ls_roster_Taken B_roster_Taken Tryd.f65 [(.arr 64 (.st .entry))] [(.int .u64)] x = g_roster_Taken x := by kernel_rfl
theorem ok_roster_Taken : ConOK Tryd.prog 65 c_roster_Taken := con_ok (ConsOK.nil) L_roster_Taken Ls_roster_Taken (B := B_roster_Taken) (BodiesOK.nil) Tryd.func65 rfl fun x y hf h => (run_roster_Taken x).trans (eq_roster_Taken x y hf h)
noncomputable def L_ref09_Right : List (Nat × LD) := []
noncomputable def Ls_ref09_Right : List (Nat × List (Nat × LD)) := []
noncomputable def B_ref09_Right : Bodies := []
theorem run_ref09_Right (x : denL [(.st .entry)]) : run [] L_ref09_Right Ls_ref09_Right B_ref09_Right Tryd.f71 [(.st .entry)] [.bool] x = g_ref09_Right x := by kernel_rfl
theorem ok_ref09_Right : ConOK Tryd.prog 71 c_ref09_Right := con_ok (ConsOK.nil) L_ref09_Right Ls_ref09_Right (B := B_ref09_Right) (BodiesOK.nil) Tryd.func71 rfl fun x y hf h => (run_ref09_Right x).trans (eq_ref09_Right x y hf h)
noncomputable def L_ref09_Check : List (Nat × LD) := [(8, ⟨⟨[(1, .ptr 0 []), (3, .hole .i), (4, .hole .i)], [(0, (.arr 64 (.st .entry)), .hole (.arr 64 (.st .entry)))], []⟩, [(.ret, ⟨[(2, .hole .i)], [], []⟩), (.exit 2, ⟨[(1, .ptr 0 []), (3, .hole .i)], [(0, (.arr 64 (.st .entry)), .hole (.arr 64 (.st .entry)))], []⟩)], 10, []⟩), (2, ⟨⟨[(1, .ptr 0 []), (3, .hole .i)], [(0, (.arr 64 (.st .entry)), .hole (.arr 64 (.st .entry)))], []⟩, [(.ret, ⟨[(2, .hole .i)], [], []⟩), (.exit 0, ⟨[], [], []⟩)], 20, []⟩)]
noncomputable def Ls_ref09_Check : List (Nat × List (Nat × LD)) := []
noncomputable def B_ref09_Check : Bodies := []
theorem run_ref09_Check (x : denL [(.arr 64 (.st .entry))]) : run [(71, c_ref09_Right)] L_ref09_Check Ls_ref09_Check B_ref09_Check Tryd.f46 [(.arr 64 (.st .entry))] [.i] x = g_ref09_Check x := by kernel_rfl
theorem ok_ref09_Check : ConOK Tryd.prog 46 c_ref09_Check := con_ok (ConsOK.cons ok_ref09_Right (ConsOK.nil)) L_ref09_Check Ls_ref09_Check (B := B_ref09_Check) (BodiesOK.nil) Tryd.func46 rfl fun x y hf h => (run_ref09_Check x).trans (eq_ref09_Check x y hf h)
noncomputable def L_ref09_Find : List (Nat × LD) := [(2, ⟨⟨[(1, .hole .i), (2, .ptr 0 []), (5, .hole .i)], [(0, (.arr 64 (.st .entry)), .hole (.arr 64 (.st .entry)))], []⟩, [(.ret, ⟨[(4, .hole .i)], [], []⟩), (.exit 0, ⟨[], [], []⟩)], 10, []⟩)]
noncomputable def Ls_ref09_Find : List (Nat × List (Nat × LD)) := []
noncomputable def B_ref09_Find : Bodies := []
theorem run_ref09_Find (x : denL [(.arr 64 (.st .entry)), .i]) : run [] L_ref09_Find Ls_ref09_Find B_ref09_Find Tryd.f26 [(.arr 64 (.st .entry)), .i] [.i] x = g_ref09_Find x := by kernel_rfl
theorem ok_ref09_Find : ConOK Tryd.prog 26 c_ref09_Find := con_ok (ConsOK.nil) L_ref09_Find Ls_ref09_Find (B := B_ref09_Find) (BodiesOK.nil) Tryd.func26 rfl fun x y hf h => (run_ref09_Find x).trans (eq_ref09_Find x y hf h)
noncomputable def L_ref11_Start : List (Nat × LD) := [(3, ⟨⟨[(0, .ptr 0 []), (1, .ptr 1 []), (2, .hole .i)], [(0, (.st .tree), .hole (.st .tree)), (1, (.st .tree), .hole (.st .tree))], []⟩, [(.exit 0, ⟨[(0, .ptr 0 []), (1, .ptr 1 [])], [(0, (.st .tree), .hole (.st .tree)), (1, (.st .tree), .hole (.st .tree))], []⟩)], 10, []⟩)]
noncomputable def Ls_ref11_Start : List (Nat × List (Nat × LD)) := []
noncomputable def B_ref11_Start : Bodies := []
theorem run_ref11_Start (x : denL []) : run [] L_ref11_Start Ls_ref11_Start B_ref11_Start Tryd.f52 [] [(.st .tree)] x = g_ref11_Start x := by kernel_rfl
theorem ok_ref11_Start : ConOK Tryd.prog 52 c_ref11_Start := con_ok (ConsOK.nil) L_ref11_Start Ls_ref11_Start (B := B_ref11_Start) (BodiesOK.nil) Tryd.func52 rfl fun x y hf h => (run_ref11_Start x).trans (eq_ref11_Start x y hf h)
noncomputable def L_ref11_Check : List (Nat × LD) := [(4, ⟨⟨[(1, .ptr 0 []), (3, .hole .i)], [(0, (.st .tree), .hole (.st .tree))], []⟩, [(.ret, ⟨[(2, .hole .i)], [], []⟩), (.exit 0, ⟨[(1, .ptr 0 [])], [(0, (.st .tree), .hole (.st .tree))], []⟩)], 10, []⟩), (14, ⟨⟨[(1, .ptr 0 []), (4, .hole .i), (5, .hole .i)], [(0, (.st .tree), .hole (.st .tree))], []⟩, [(.ret, ⟨[(2, .hole .i)], [], []⟩), (.exit 4, ⟨[(1, .ptr 0 []), (4, .hole .i)], [(0, (.st .tree), .hole (.st .tree))], []⟩)], 10, []⟩), (9, ⟨⟨[(1, .ptr 0 []), (4, .hole .i)], [(0, (.st .tree), .hole (.st .tree))], []⟩, [(.ret, ⟨[(2, .hole .i)], [], []⟩), (.exit 2, ⟨[], [], []⟩)], 20, []⟩)]
noncomputable def Ls_ref11_Check : List (Nat × List (Nat × LD)) := []
noncomputable def B_ref11_Check : Bodies := []
theorem run_ref11_Check (x : denL [(.st .tree)]) : run [(45, c_ref10_Check), (46, c_ref09_Check)] L_ref11_Check Ls_ref11_Check B_ref11_Check Tryd.f25 [(.st .tree)] [.i] x = g_ref11_Check x := by kernel_rfl
theorem ok_ref11_Check : ConOK Tryd.prog 25 c_ref11_Check := con_ok (ConsOK.cons ok_ref10_Check (ConsOK.cons ok_ref09_Check (ConsOK.nil))) L_ref11_Check Ls_ref11_Check (B := B_ref11_Check) (BodiesOK.nil) Tryd.func25 rfl fun x y hf h => (run_ref11_Check x).trans (eq_ref11_Check x y hf h)
noncomputable def L_ref11_Of : List (Nat × LD) := []
noncomputable def Ls_ref11_Of : List (Nat × List (Nat × LD)) := []
noncomputable def B_ref11_Of : Bodies := []
theorem run_ref11_Of (x : denL [(.st .tree), .i]) : run [(42, c_ref01_Node), (43, c_ref10_LeafAt)] L_ref11_Of Ls_ref11_Of B_ref11_Of Tryd.f19 [(.st .tree), .i] [(.st .key), .i] x = g_ref11_Of x := by kernel_rfl
theorem ok_ref11_Of : ConOK Tryd.prog 19 c_ref11_Of := con_ok (ConsOK.cons ok_ref01_Node (ConsOK.cons ok_ref10_LeafAt (ConsOK.nil))) L_ref11_Of Ls_ref11_Of (B := B_ref11_Of) (BodiesOK.nil) Tryd.func19 rfl fun x y hf h => (run_ref11_Of x).trans (eq_ref11_Of x y hf h)
noncomputable def L_ref11_Below : List (Nat × LD) := [(2, ⟨⟨[(1, .hole .i), (2, .ptr 0 []), (5, .hole .i)], [(0, (.arr 64 (.st .entry)), .hole (.arr 64 (.st .entry)))], []⟩, [(.ret, ⟨[(4, .hole .bool)], [], []⟩), (.exit 0, ⟨[], [], []⟩)], 10, []⟩)]
noncomputable def Ls_ref11_Below : List (Nat × List (Nat × LD)) := []
noncomputable def B_ref11_Below : Bodies := []
theorem run_ref11_Below (x : denL [(.arr 64 (.st .entry)), .i]) : run [(20, c_ref01_Leaf), (55, c_ref01_Below)] L_ref11_Below Ls_ref11_Below B_ref11_Below Tryd.f76 [(.arr 64 (.st .entry)), .i] [.bool] x = g_ref11_Below x := by kernel_rfl
theorem ok_ref11_Below : ConOK Tryd.prog 76 c_ref11_Below := con_ok (ConsOK.cons ok_ref01_Leaf (ConsOK.cons ok_ref01_Below (ConsOK.nil))) L_ref11_Below Ls_ref11_Below (B := B_ref11_Below) (BodiesOK.nil) Tryd.func76 rfl fun x y hf h => (run_ref11_Below x).trans (eq_ref11_Below x y hf h)
noncomputable def L_keytree_Check : List (Nat × LD) := [(7, ⟨⟨[(1, .ptr 0 []), (3, .mp 1), (38, .hole (.arr 21 (.st .key))), (39, .hole .i)], [(0, (.st .tree), .hole (.st .tree))], [(1, .i, .i)]⟩, [(.ret, ⟨[(2, .hole .i)], [], []⟩), (.exit 0, ⟨[(1, .ptr 0 []), (3, .mp 1)], [(0, (.st .tree), .hole (.st .tree))], [(1, .i, .i)]⟩)], 11, []⟩), (14, ⟨⟨[(1, .ptr 0 []), (3, .mp 1), (61, .hole (.arr 64 (.st .entry))), (62, .hole .i)], [(0, (.st .tree), .hole (.st .tree))], [(1, .i, .i)]⟩, [(.ret, ⟨[(2, .hole .i)], [], []⟩), (.exit 2, ⟨[], [], []⟩)], 11, []⟩)]
noncomputable def Ls_keytree_Check : List (Nat × List (Nat × LD)) := []
noncomputable def B_keytree_Check : Bodies := []
theorem run_keytree_Check (x : denL [(.st .tree)]) : run [(79, c_ratchet_Check), (80, c_roster_Check)] L_keytree_Check Ls_keytree_Check B_keytree_Check Tryd.f56 [(.st .tree)] [.i] x = g_keytree_Check x := by kernel_rfl
theorem ok_keytree_Check : ConOK Tryd.prog 56 c_keytree_Check := con_ok (ConsOK.cons ok_ratchet_Check (ConsOK.cons ok_roster_Check (ConsOK.nil))) L_keytree_Check Ls_keytree_Check (B := B_keytree_Check) (BodiesOK.nil) Tryd.func56 rfl fun x y hf h => (run_keytree_Check x).trans (eq_keytree_Check x y hf h)
noncomputable def L_ref08_Places : List (Nat × LD) := [(3, ⟨⟨[(0, .hole (.int .u64)), (2, .ptr 0 []), (3, .ptr 1 []), (4, .hole .i)], [(0, (.arr 64 .bool), .hole (.arr 64 .bool)), (1, (.arr 64 .bool), .hole (.arr 64 .bool))], []⟩, [(.exit 0, ⟨[(2, .ptr 0 []), (3, .ptr 1 [])], [(0, (.arr 64 .bool), .hole (.arr 64 .bool)), (1, (.arr 64 .bool), .hole (.arr 64 .bool))], []⟩)], 10, []⟩)]
noncomputable def Ls_ref08_Places : List (Nat × List (Nat × LD)) := []
noncomputable def B_ref08_Places : Bodies := []
theorem run_ref08_Places (x : denL [(.int .u64)]) : run [] L_ref08_Places Ls_ref08_Places B_ref08_Places Tryd.f72 [(.int .u64)] [(.arr 64 .bool)] x = g_ref08_Places x := by kernel_rfl
theorem ok_ref08_Places : ConOK Tryd.prog 72 c_ref08_Places := con_ok (ConsOK.nil) L_ref08_Places Ls_ref08_Places (B := B_ref08_Places) (BodiesOK.nil) Tryd.func72 rfl fun x y hf h => (run_ref08_Places x).trans (eq_ref08_Places x y hf h)
noncomputable def L_ref08_Word : List (Nat × LD) := [(3, ⟨⟨[(1, .ptr 0 []), (3, .hole (.int .u64)), (4, .hole .i)], [(0, (.arr 64 .bool), .hole (.arr 64 .bool))], []⟩, [(.exit 0, ⟨[(3, .hole (.int .u64))], [], []⟩)], 10, []⟩)]
noncomputable def Ls_ref08_Word : List (Nat × List (Nat × LD)) := []
noncomputable def B_ref08_Word : Bodies := []
theorem run_ref08_Word (x : denL [(.arr 64 .bool)]) : run [] L_ref08_Word Ls_ref08_Word B_ref08_Word Tryd.f48 [(.arr 64 .bool)] [(.int .u64)] x = g_ref08_Word x := by kernel_rfl
theorem ok_ref08_Word : ConOK Tryd.prog 48 c_ref08_Word := con_ok (ConsOK.nil) L_ref08_Word Ls_ref08_Word (B := B_ref08_Word) (BodiesOK.nil) Tryd.func48 rfl fun x y hf h => (run_ref08_Word x).trans (eq_ref08_Word x y hf h)
noncomputable def L_ref08_List : List (Nat × LD) := [(4, ⟨⟨[(3, .ptr 0 []), (4, .row .i), (5, .hole .i)], [(0, (.arr 64 .bool), .hole (.arr 64 .bool))], []⟩, [(.exit 0, ⟨[(4, .row .i)], [], []⟩)], 13, []⟩)]
noncomputable def Ls_ref08_List : List (Nat × List (Nat × LD)) := []
noncomputable def B_ref08_List : Bodies := []
theorem run_ref08_List (x : denL [(.int .u64)]) : run [(72, c_ref08_Places)] L_ref08_List Ls_ref08_List B_ref08_List Tryd.f47 [(.int .u64)] [(.list .i)] x = g_ref08_List x := by kernel_rfl
theorem ok_ref08_List : ConOK Tryd.prog 47 c_ref08_List := con_ok (ConsOK.cons ok_ref08_Places (ConsOK.nil)) L_ref08_List Ls_ref08_List (B := B_ref08_List) (BodiesOK.nil) Tryd.func47 rfl fun x y hf h => (run_ref08_List x).trans (eq_ref08_List x y hf h)
noncomputable def L_ref08_Count : List (Nat × LD) := []
noncomputable def Ls_ref08_Count : List (Nat × List (Nat × LD)) := []
noncomputable def B_ref08_Count : Bodies := []
theorem run_ref08_Count (x : denL [(.int .u64)]) : run [(47, c_ref08_List)] L_ref08_Count Ls_ref08_Count B_ref08_Count Tryd.f27 [(.int .u64)] [.i] x = g_ref08_Count x := by kernel_rfl
theorem ok_ref08_Count : ConOK Tryd.prog 27 c_ref08_Count := con_ok (ConsOK.cons ok_ref08_List (ConsOK.nil)) L_ref08_Count Ls_ref08_Count (B := B_ref08_Count) (BodiesOK.nil) Tryd.func27 rfl fun x y hf h => (run_ref08_Count x).trans (eq_ref08_Count x y hf h)
noncomputable def L_ref09_Taken : List (Nat × LD) := [(3, ⟨⟨[(1, .ptr 0 []), (3, .ptr 1 []), (4, .hole .i)], [(0, (.arr 64 (.st .entry)), .hole (.arr 64 (.st .entry))), (1, (.arr 64 .bool), .hole (.arr 64 .bool))], []⟩, [(.exit 0, ⟨[(3, .ptr 1 [])], [(1, (.arr 64 .bool), .hole (.arr 64 .bool))], []⟩)], 10, []⟩)]
noncomputable def Ls_ref09_Taken : List (Nat × List (Nat × LD)) := []
noncomputable def B_ref09_Taken : Bodies := []
theorem run_ref09_Taken (x : denL [(.arr 64 (.st .entry))]) : run [(48, c_ref08_Word)] L_ref09_Taken Ls_ref09_Taken B_ref09_Taken Tryd.f28 [(.arr 64 (.st .entry))] [(.int .u64)] x = g_ref09_Taken x := by kernel_rfl
theorem ok_ref09_Taken : ConOK Tryd.prog 28 c_ref09_Taken := con_ok (ConsOK.cons ok_ref08_Word (ConsOK.nil)) L_ref09_Taken Ls_ref09_Taken (B := B_ref09_Taken) (BodiesOK.nil) Tryd.func28 rfl fun x y hf h => (run_ref09_Taken x).trans (eq_ref09_Taken x y hf h)
noncomputable def L_ref09_person : List (Nat × LD) := []
noncomputable def Ls_ref09_person : List (Nat × List (Nat × LD)) := []
noncomputable def B_ref09_person : Bodies := []
theorem run_ref09_person (x : denL [(.arr 64 (.st .entry)), (.arr 256 .bool), .i, .bool]) : run [(26, c_ref09_Find)] L_ref09_person Ls_ref09_person B_ref09_person Tryd.f93 [(.arr 64 (.st .entry)), (.arr 256 .bool), .i, .bool] [.i] x = g_ref09_person x := by kernel_rfl
theorem ok_ref09_person : ConOK Tryd.prog 93 c_ref09_person := con_ok (ConsOK.cons ok_ref09_Find (ConsOK.nil)) L_ref09_person Ls_ref09_person (B := B_ref09_person) (BodiesOK.nil) Tryd.func93 rfl fun x y hf h => (run_ref09_person x).trans (eq_ref09_person x y hf h)
noncomputable def L_ref09_Fits : List (Nat × LD) := [(5, ⟨⟨[(2, .ptr 0 []), (3, .ptr 1 []), (5, .ptr 2 []), (16, .hole (.list .i)), (17, .hole .i), (18, .hole .i)], [(0, (.arr 64 (.st .entry)), .hole (.arr 64 (.st .entry))), (1, (.st .batch), .hole (.st .batch)), (2, (.arr 256 .bool), .hole (.arr 256 .bool))], []⟩, [(.ret, ⟨[(4, .hole .i)], [], []⟩), (.exit 0, ⟨[(2, .ptr 0 []), (3, .ptr 1 []), (5, .ptr 2 [])], [(0, (.arr 64 (.st .entry)), .hole (.arr 64 (.st .entry))), (1, (.st .batch), .hole (.st .batch)), (2, (.arr 256 .bool), .hole (.arr 256 .bool))], []⟩)], 10, []⟩), (13, ⟨⟨[(2, .ptr 0 []), (3, .ptr 1 []), (5, .ptr 2 []), (33, .hole (.list .i)), (34, .hole .i), (35, .hole .i)], [(0, (.arr 64 (.st .entry)), .hole (.arr 64 (.st .entry))), (1, (.st .batch), .hole (.st .batch)), (2, (.arr 256 .bool), .hole (.arr 256 .bool))], []⟩, [(.ret, ⟨[(4, .hole .i)], [], []⟩), (.exit 2, ⟨[(2, .ptr 0 []), (3, .ptr 1 [])], [(0, (.arr 64 (.st .entry)), .hole (.arr 64 (.st .entry))), (1, (.st .batch), .hole (.st .batch))], []⟩)], 10, []⟩)]
noncomputable def Ls_ref09_Fits : List (Nat × List (Nat × LD)) := []
noncomputable def B_ref09_Fits : Bodies := []
theorem run_ref09_Fits (x : denL [(.arr 64 (.st .entry)), (.st .batch)]) : run [(46, c_ref09_Check), (93, c_ref09_person), (28, c_ref09_Taken), (27, c_ref08_Count)] L_ref09_Fits Ls_ref09_Fits B_ref09_Fits Tryd.f73 [(.arr 64 (.st .entry)), (.st .batch)] [.i] x = g_ref09_Fits x := by kernel_rfl
theorem ok_ref09_Fits : ConOK Tryd.prog 73 c_ref09_Fits := con_ok (ConsOK.cons ok_ref09_Check (ConsOK.cons ok_ref09_person (ConsOK.cons ok_ref09_Taken (ConsOK.cons ok_ref08_Count (ConsOK.nil))))) L_ref09_Fits Ls_ref09_Fits (B := B_ref09_Fits) (BodiesOK.nil) Tryd.func73 rfl fun x y hf h => (run_ref09_Fits x).trans (eq_ref09_Fits x y hf h)
noncomputable def L_ref09_Move : List (Nat × LD) := [(10, ⟨⟨[(2, .hole .i), (3, .hole .i), (4, .ptr 0 []), (5, .ptr 1 []), (8, .ptr 2 []), (13, .hole .i), (14, .hole .i)], [(0, (.arr 64 (.st .entry)), .hole (.arr 64 (.st .entry))), (1, (.st .batch), .hole (.st .batch)), (2, (.arr 64 (.st .entry)), .hole (.arr 64 (.st .entry)))], []⟩, [(.ret, ⟨[(8, .ptr 2 []), (9, .nils), (10, .nils), (11, .hole .i)], [(2, (.arr 64 (.st .entry)), .hole (.arr 64 (.st .entry)))], []⟩), (.exit 0, ⟨[(2, .hole .i), (3, .hole .i), (4, .ptr 0 []), (5, .ptr 1 []), (8, .ptr 2 [])], [(0, (.arr 64 (.st .entry)), .hole (.arr 64 (.st .entry))), (1, (.st .batch), .hole (.st .batch)), (2, (.arr 64 (.st .entry)), .hole (.arr 64 (.st .entry)))], []⟩)], 10, []⟩), (16, ⟨⟨[(2, .hole .i), (3, .hole .i), (4, .ptr 0 []), (5, .ptr 1 []), (8, .ptr 2 []), (15, .row (.st .seat)), (16, .nils), (79, .hole (.list .i)), (80, .hole .i), (81, .hole .i)], [(0, (.arr 64 (.st .entry)), .hole (.arr 64 (.st .entry))), (1, (.st .batch), .hole (.st .batch)), (2, (.arr 64 (.st .entry)), .hole (.arr 64 (.st .entry)))], []⟩, [(.exit 2, ⟨[(2, .hole .i), (3, .hole .i), (4, .ptr 0 []), (5, .ptr 1 []), (8, .ptr 2 []), (15, .row (.st .seat)), (16, .nils)], [(0, (.arr 64 (.st .entry)), .hole (.arr 64 (.st .entry))), (1, (.st .batch), .hole (.st .batch)), (2, (.arr 64 (.st .entry)), .hole (.arr 64 (.st .entry)))], []⟩)], 13, []⟩), (26, ⟨⟨[(2, .hole .i), (3, .hole .i), (4, .ptr 0 []), (8, .ptr 2 []), (15, .row (.st .seat)), (16, .row (.st .seat)), (20, .hole .i), (21, .hole .i), (22, .hole .i), (99, .hole (.list .i)), (100, .hole .i), (101, .hole .i)], [(0, (.arr 64 (.st .entry)), .hole (.arr 64 (.st .entry))), (2, (.arr 64 (.st .entry)), .hole (.arr 64 (.st .entry)))], []⟩, [(.exit 6, ⟨[(2, .hole .i), (3, .hole .i), (4, .ptr 0 []), (8, .ptr 2 []), (15, .row (.st .seat)), (16, .row (.st .seat)), (20, .hole .i), (21, .hole .i), (22, .hole .i), (99, .hole (.list .i)), (100, .hole .i), (101, .hole .i)], [(0, (.arr 64 (.st .entry)), .hole (.arr 64 (.st .entry))), (2, (.arr 64 (.st .entry)), .hole (.arr 64 (.st .entry)))], []⟩)], 12, []⟩), (23, ⟨⟨[(2, .hole .i), (3, .hole .i), (4, .ptr 0 []), (8, .ptr 2 []), (15, .row (.st .seat)), (16, .row (.st .seat)), (99, .hole (.list .i)), (100, .hole .i), (101, .hole .i)], [(0, (.arr 64 (.st .entry)), .hole (.arr 64 (.st .entry))), (2, (.arr 64 (.st .entry)), .hole (.arr 64 (.st .entry)))], []⟩, [(.exit 4, ⟨[(4, .ptr 0 []), (8, .ptr 2 []), (15, .row (.st .seat)), (16, .row (.st .seat))], [(0, (.arr 64 (.st .entry)), .hole (.arr 64 (.st .entry))), (2, (.arr 64 (.st .entry)), .hole (.arr 64 (.st .entry)))], []⟩)], 24, []⟩)]
noncomputable def Ls_ref09_Move : List (Nat × List (Nat × LD)) := []
noncomputable def B_ref09_Move : Bodies := []
theorem run_ref09_Move (x : denL [(.arr 64 (.st .entry)), (.st .batch), .i, .i]) : run [(73, c_ref09_Fits), (26, c_ref09_Find)] L_ref09_Move Ls_ref09_Move B_ref09_Move Tryd.f75 [(.arr 64 (.st .entry)), (.st .batch), .i, .i] [(.arr 64 (.st .entry)), (.list (.st .seat)), (.list (.st .seat)), .i] x = g_ref09_Move x := by kernel_rfl
theorem ok_ref09_Move : ConOK Tryd.prog 75 c_ref09_Move := con_ok (ConsOK.cons ok_ref09_Fits (ConsOK.cons ok_ref09_Find (ConsOK.nil))) L_ref09_Move Ls_ref09_Move (B := B_ref09_Move) (BodiesOK.nil) Tryd.func75 rfl fun x y hf h => (run_ref09_Move x).trans (eq_ref09_Move x y hf h)
noncomputable def L_ref11_Replaced : List (Nat × LD) := [(7, ⟨⟨[(0, .hole (.list (.st .seat))), (3, .hole (.int .u32)), (4, .hole (.int .u32)), (5, .hole .i), (12, .hole (.list (.st .seat))), (13, .hole .i), (14, .hole .i)], [], []⟩, [(.exit 2, ⟨[(0, .hole (.list (.st .seat))), (3, .hole (.int .u32)), (4, .hole (.int .u32)), (5, .hole .i)], [], []⟩)], 11, []⟩), (4, ⟨⟨[(0, .hole (.list (.st .seat))), (3, .hole (.int .u32)), (4, .hole (.int .u32)), (5, .hole .i)], [], []⟩, [(.exit 0, ⟨[(3, .hole (.int .u32))], [], []⟩)], 22, []⟩)]
noncomputable def Ls_ref11_Replaced : List (Nat × List (Nat × LD)) := []
noncomputable def B_ref11_Replaced : Bodies := []
theorem run_ref11_Replaced (x : denL [(.list (.st .seat))]) : run [(20, c_ref01_Leaf), (55, c_ref01_Below)] L_ref11_Replaced Ls_ref11_Replaced B_ref11_Replaced Tryd.f37 [(.list (.st .seat))] [(.int .u32)] x = g_ref11_Replaced x := by kernel_rfl
theorem ok_ref11_Replaced : ConOK Tryd.prog 37 c_ref11_Replaced := con_ok (ConsOK.cons ok_ref01_Leaf (ConsOK.cons ok_ref01_Below (ConsOK.nil))) L_ref11_Replaced Ls_ref11_Replaced (B := B_ref11_Replaced) (BodiesOK.nil) Tryd.func37 rfl fun x y hf h => (run_ref11_Replaced x).trans (eq_ref11_Replaced x y hf h)
noncomputable def L_ref11_Next : List (Nat × LD) := [(10, ⟨⟨[(2, .ptr 0 []), (3, .ptr 1 []), (4, .ptr 2 []), (9, .row (.st .seat)), (34, .hole (.list .i)), (35, .hole .i), (36, .hole .i)], [(0, (.st .tree), .hole (.st .tree)), (1, (.st .batch), .hole (.st .batch)), (2, (.st .tree), .hole (.st .tree))], []⟩, [(.exit 0, ⟨[(2, .ptr 0 []), (3, .ptr 1 []), (4, .ptr 2 []), (9, .row (.st .seat))], [(0, (.st .tree), .hole (.st .tree)), (1, (.st .batch), .hole (.st .batch)), (2, (.st .tree), .hole (.st .tree))], []⟩)], 13, []⟩)]
noncomputable def Ls_ref11_Next : List (Nat × List (Nat × LD)) := []
noncomputable def B_ref11_Next : Bodies := []
theorem run_ref11_Next (x : denL [(.st .tree), (.st .batch)]) : run [(25, c_ref11_Check), (73, c_ref09_Fits), (26, c_ref09_Find), (37, c_ref11_Replaced), (74, c_ref10_Turn), (75, c_ref09_Move)] L_ref11_Next Ls_ref11_Next B_ref11_Next Tryd.f49 [(.st .tree), (.st .batch)] [(.st .tree), (.list (.st .seat)), (.list (.st .seat)), .i] x = g_ref11_Next x := by kernel_rfl
theorem ok_ref11_Next : ConOK Tryd.prog 49 c_ref11_Next := con_ok (ConsOK.cons ok_ref11_Check (ConsOK.cons ok_ref09_Fits (ConsOK.cons ok_ref09_Find (ConsOK.cons ok_ref11_Replaced (ConsOK.cons ok_ref10_Turn (ConsOK.cons ok_ref09_Move (ConsOK.nil))))))) L_ref11_Next Ls_ref11_Next (B := B_ref11_Next) (BodiesOK.nil) Tryd.func49 rfl fun x y hf h => (run_ref11_Next x).trans (eq_ref11_Next x y hf h)
noncomputable def L_ref12_item : List (Nat × LD) := []
noncomputable def Ls_ref12_item : List (Nat × List (Nat × LD)) := []
noncomputable def B_ref12_item : Bodies := []
theorem run_ref12_item (x : denL [(.st .tree), .i, .i]) : run [(19, c_ref11_Of)] L_ref12_item Ls_ref12_item B_ref12_item Tryd.f77 [(.st .tree), .i, .i] [(.st .item)] x = g_ref12_item x := by kernel_rfl
theorem ok_ref12_item : ConOK Tryd.prog 77 c_ref12_item := con_ok (ConsOK.cons ok_ref11_Of (ConsOK.nil)) L_ref12_item Ls_ref12_item (B := B_ref12_item) (BodiesOK.nil) Tryd.func77 rfl fun x y hf h => (run_ref12_item x).trans (eq_ref12_item x y hf h)
noncomputable def L_ref12_Items : List (Nat × LD) := [(7, ⟨⟨[(2, .hole (.list (.st .seat))), (3, .ptr 0 []), (7, .hole (.int .u32)), (8, .row (.st .item)), (9, .hole .i), (10, .hole .i)], [(0, (.st .tree), .hole (.st .tree))], []⟩, [(.exit 2, ⟨[(2, .hole (.list (.st .seat))), (3, .ptr 0 []), (7, .hole (.int .u32)), (8, .row (.st .item)), (9, .hole .i)], [(0, (.st .tree), .hole (.st .tree))], []⟩)], 13, []⟩), (4, ⟨⟨[(2, .hole (.list (.st .seat))), (3, .ptr 0 []), (7, .hole (.int .u32)), (8, .row (.st .item)), (9, .hole .i)], [(0, (.st .tree), .hole (.st .tree))], []⟩, [(.exit 0, ⟨[(2, .hole (.list (.st .seat))), (3, .ptr 0 []), (7, .hole (.int .u32)), (8, .row (.st .item))], [(0, (.st .tree), .hole (.st .tree))], []⟩)], 25, []⟩), (17, ⟨⟨[(3, .ptr 0 []), (7, .hole (.int .u32)), (8, .row (.st .item)), (13, .ptr 27 []), (14, .ptr 28 []), (16, .hole .i), (46, .hole (.list (.st .seat))), (47, .hole .i), (48, .hole .i)], [(0, (.st .tree), .hole (.st .tree)), (27, (.st .seat), .hole (.st .seat)), (28, (.arr 3 .i), .hole (.arr 3 .i))], []⟩, [(.exit 6, ⟨[(3, .ptr 0 []), (7, .hole (.int .u32)), (8, .row (.st .item)), (46, .hole (.list (.st .seat))), (47, .hole .i), (48, .hole .i)], [(0, (.st .tree), .hole (.st .tree))], []⟩)], 13, []⟩), (13, ⟨⟨[(3, .ptr 0 []), (7, .hole (.int .u32)), (8, .row (.st .item)), (46, .hole (.list (.st .seat))), (47, .hole .i), (48, .hole .i)], [(0, (.st .tree), .hole (.st .tree))], []⟩, [(.exit 4, ⟨[(8, .row (.st .item))], [], []⟩)], 27, []⟩)]
noncomputable def Ls_ref12_Items : List (Nat × List (Nat × LD)) := []
noncomputable def B_ref12_Items : Bodies := []
theorem run_ref12_Items (x : denL [(.st .tree), (.list (.st .seat)), (.list (.st .seat))]) : run [(37, c_ref11_Replaced), (24, c_ref01_In), (70, c_ref01_Child), (76, c_ref11_Below), (77, c_ref12_item), (21, c_ref01_Path), (20, c_ref01_Leaf)] L_ref12_Items Ls_ref12_Items B_ref12_Items Tryd.f50 [(.st .tree), (.list (.st .seat)), (.list (.st .seat))] [(.list (.st .item))] x = g_ref12_Items x := by kernel_rfl
theorem ok_ref12_Items : ConOK Tryd.prog 50 c_ref12_Items := con_ok (ConsOK.cons ok_ref11_Replaced (ConsOK.cons ok_ref01_In (ConsOK.cons ok_ref01_Child (ConsOK.cons ok_ref11_Below (ConsOK.cons ok_ref12_item (ConsOK.cons ok_ref01_Path (ConsOK.cons ok_ref01_Leaf (ConsOK.nil)))))))) L_ref12_Items Ls_ref12_Items (B := B_ref12_Items) (BodiesOK.nil) Tryd.func50 rfl fun x y hf h => (run_ref12_Items x).trans (eq_ref12_Items x y hf h)
noncomputable def L_ref12_Next : List (Nat × LD) := []
noncomputable def Ls_ref12_Next : List (Nat × List (Nat × LD)) := []
noncomputable def B_ref12_Next : Bodies := []
theorem run_ref12_Next (x : denL [(.st .tree), (.st .batch)]) : run [(49, c_ref11_Next), (50, c_ref12_Items)] L_ref12_Next Ls_ref12_Next B_ref12_Next Tryd.f29 [(.st .tree), (.st .batch)] [(.st .tree), (.st .rekey), .i] x = g_ref12_Next x := by kernel_rfl
theorem ok_ref12_Next : ConOK Tryd.prog 29 c_ref12_Next := con_ok (ConsOK.cons ok_ref11_Next (ConsOK.cons ok_ref12_Items (ConsOK.nil))) L_ref12_Next Ls_ref12_Next (B := B_ref12_Next) (BodiesOK.nil) Tryd.func29 rfl fun x y hf h => (run_ref12_Next x).trans (eq_ref12_Next x y hf h)
noncomputable def L_plan_Replaced : List (Nat × LD) := [(3, ⟨⟨[(3, .hole (.int .u64)), (6, .hole (.list (.st .seat))), (7, .hole .i), (8, .hole .i)], [], []⟩, [(.exit 0, ⟨[(3, .hole (.int .u64))], [], []⟩)], 11, []⟩)]
noncomputable def Ls_plan_Replaced : List (Nat × List (Nat × LD)) := []
noncomputable def B_plan_Replaced : Bodies := []
theorem run_plan_Replaced (x : denL [(.list (.st .seat))]) : run [(35, c_shape_Leaf), (34, c_shape_Mask), (36, c_shape_Above)] L_plan_Replaced Ls_plan_Replaced B_plan_Replaced Tryd.f13 [(.list (.st .seat))] [(.int .u32)] x = g_plan_Replaced x := by kernel_rfl
theorem ok_plan_Replaced : ConOK Tryd.prog 13 c_plan_Replaced := con_ok (ConsOK.cons ok_shape_Leaf (ConsOK.cons ok_shape_Mask (ConsOK.cons ok_shape_Above (ConsOK.nil)))) L_plan_Replaced Ls_plan_Replaced (B := B_plan_Replaced) (BodiesOK.nil) Tryd.func13 rfl fun x y hf h => (run_plan_Replaced x).trans (eq_plan_Replaced x y hf h)
noncomputable def L_bits_OnesCount64 : List (Nat × LD) := []
noncomputable def Ls_bits_OnesCount64 : List (Nat × List (Nat × LD)) := []
noncomputable def B_bits_OnesCount64 : Bodies := []
theorem run_bits_OnesCount64 (x : denL [(.int .u64)]) : run [] L_bits_OnesCount64 Ls_bits_OnesCount64 B_bits_OnesCount64 Tryd.f98 [(.int .u64)] [.i] x = g_bits_OnesCount64 x := by kernel_rfl
theorem ok_bits_OnesCount64 : ConOK Tryd.prog 98 c_bits_OnesCount64 := con_ok (ConsOK.nil) L_bits_OnesCount64 Ls_bits_OnesCount64 (B := B_bits_OnesCount64) (BodiesOK.nil) Tryd.func98 rfl fun x y hf h => (run_bits_OnesCount64 x).trans (eq_bits_OnesCount64 x y hf h)
noncomputable def L_seats_Count : List (Nat × LD) := []
noncomputable def Ls_seats_Count : List (Nat × List (Nat × LD)) := []
noncomputable def B_seats_Count : Bodies := []
theorem run_seats_Count (x : denL [(.int .u64)]) : run [(98, c_bits_OnesCount64)] L_seats_Count Ls_seats_Count B_seats_Count Tryd.f83 [(.int .u64)] [.i] x = g_seats_Count x := by kernel_rfl
theorem ok_seats_Count : ConOK Tryd.prog 83 c_seats_Count := con_ok (ConsOK.cons ok_bits_OnesCount64 (ConsOK.nil)) L_seats_Count Ls_seats_Count (B := B_seats_Count) (BodiesOK.nil) Tryd.func83 rfl fun x y hf h => (run_seats_Count x).trans (eq_seats_Count x y hf h)
noncomputable def L_seats_bit : List (Nat × LD) := []
noncomputable def Ls_seats_bit : List (Nat × List (Nat × LD)) := []
noncomputable def B_seats_bit : Bodies := []
theorem run_seats_bit (x : denL [.i]) : run [] L_seats_bit Ls_seats_bit B_seats_bit Tryd.f102 [.i] [(.int .u64)] x = g_seats_bit x := by kernel_rfl
theorem ok_seats_bit : ConOK Tryd.prog 102 c_seats_bit := con_ok (ConsOK.nil) L_seats_bit Ls_seats_bit (B := B_seats_bit) (BodiesOK.nil) Tryd.func102 rfl fun x y hf h => (run_seats_bit x).trans (eq_seats_bit x y hf h)
noncomputable def L_ref09_Same : List (Nat × LD) := [(4, ⟨⟨[(0, .hole (.list (.st .seat))), (1, .hole (.list (.st .seat))), (12, .hole .i), (13, .hole .i)], [], []⟩, [(.ret, ⟨[(4, .hole .bool)], [], []⟩), (.exit 0, ⟨[], [], []⟩)], 10, []⟩)]
noncomputable def Ls_ref09_Same : List (Nat × List (Nat × LD)) := []
noncomputable def B_ref09_Same : Bodies := []
theorem run_ref09_Same (x : denL [(.list (.st .seat)), (.list (.st .seat))]) : run [] L_ref09_Same Ls_ref09_Same B_ref09_Same Tryd.f15 [(.list (.st .seat)), (.list (.st .seat))] [.bool] x = g_ref09_Same x := by kernel_rfl
theorem ok_ref09_Same : ConOK Tryd.prog 15 c_ref09_Same := con_ok (ConsOK.nil) L_ref09_Same Ls_ref09_Same (B := B_ref09_Same) (BodiesOK.nil) Tryd.func15 rfl fun x y hf h => (run_ref09_Same x).trans (eq_ref09_Same x y hf h)
noncomputable def L_ref08_Same : List (Nat × LD) := [(4, ⟨⟨[(0, .hole (.list .i)), (1, .hole (.list .i)), (12, .hole .i), (13, .hole .i)], [], []⟩, [(.ret, ⟨[(4, .hole .bool)], [], []⟩), (.exit 0, ⟨[], [], []⟩)], 10, []⟩)]
noncomputable def Ls_ref08_Same : List (Nat × List (Nat × LD)) := []
noncomputable def B_ref08_Same : Bodies := []
theorem run_ref08_Same (x : denL [(.list .i), (.list .i)]) : run [] L_ref08_Same Ls_ref08_Same B_ref08_Same Tryd.f30 [(.list .i), (.list .i)] [.bool] x = g_ref08_Same x := by kernel_rfl
theorem ok_ref08_Same : ConOK Tryd.prog 30 c_ref08_Same := con_ok (ConsOK.nil) L_ref08_Same Ls_ref08_Same (B := B_ref08_Same) (BodiesOK.nil) Tryd.func30 rfl fun x y hf h => (run_ref08_Same x).trans (eq_ref08_Same x y hf h)
noncomputable def L_ref12_SameItems : List (Nat × LD) := [(4, ⟨⟨[(0, .hole (.list (.st .item))), (1, .hole (.list (.st .item))), (12, .hole .i), (13, .hole .i)], [], []⟩, [(.ret, ⟨[(4, .hole .bool)], [], []⟩), (.exit 0, ⟨[], [], []⟩)], 10, []⟩)]
noncomputable def Ls_ref12_SameItems : List (Nat × List (Nat × LD)) := []
noncomputable def B_ref12_SameItems : Bodies := []
theorem run_ref12_SameItems (x : denL [(.list (.st .item)), (.list (.st .item))]) : run [] L_ref12_SameItems Ls_ref12_SameItems B_ref12_SameItems Tryd.f51 [(.list (.st .item)), (.list (.st .item))] [.bool] x = g_ref12_SameItems x := by kernel_rfl
theorem ok_ref12_SameItems : ConOK Tryd.prog 51 c_ref12_SameItems := con_ok (ConsOK.nil) L_ref12_SameItems Ls_ref12_SameItems (B := B_ref12_SameItems) (BodiesOK.nil) Tryd.func51 rfl fun x y hf h => (run_ref12_SameItems x).trans (eq_ref12_SameItems x y hf h)
noncomputable def L_ref12_Same : List (Nat × LD) := []
noncomputable def Ls_ref12_Same : List (Nat × List (Nat × LD)) := []
noncomputable def B_ref12_Same : Bodies := []
theorem run_ref12_Same (x : denL [(.st .rekey), (.st .rekey)]) : run [(15, c_ref09_Same), (51, c_ref12_SameItems)] L_ref12_Same Ls_ref12_Same B_ref12_Same Tryd.f31 [(.st .rekey), (.st .rekey)] [.bool] x = g_ref12_Same x := by kernel_rfl
theorem ok_ref12_Same : ConOK Tryd.prog 31 c_ref12_Same := con_ok (ConsOK.cons ok_ref09_Same (ConsOK.cons ok_ref12_SameItems (ConsOK.nil))) L_ref12_Same Ls_ref12_Same (B := B_ref12_Same) (BodiesOK.nil) Tryd.func31 rfl fun x y hf h => (run_ref12_Same x).trans (eq_ref12_Same x y hf h)
noncomputable def L_plan_nodeKey : List (Nat × LD) := []
noncomputable def Ls_plan_nodeKey : List (Nat × List (Nat × LD)) := []
noncomputable def B_plan_nodeKey : Bodies := []
theorem run_plan_nodeKey (x : denL [(.st .tree), .i]) : run [(89, c_shape_Slot), (90, c_ratchet_LeafAt)] L_plan_nodeKey Ls_plan_nodeKey B_plan_nodeKey Tryd.f64 [(.st .tree), .i] [(.st .key)] x = g_plan_nodeKey x := by kernel_rfl
theorem ok_plan_nodeKey : ConOK Tryd.prog 64 c_plan_nodeKey := con_ok (ConsOK.cons ok_shape_Slot (ConsOK.cons ok_ratchet_LeafAt (ConsOK.nil))) L_plan_nodeKey Ls_plan_nodeKey (B := B_plan_nodeKey) (BodiesOK.nil) Tryd.func64 rfl fun x y hf h => (run_plan_nodeKey x).trans (eq_plan_nodeKey x y hf h)
noncomputable def L_plan_leavers : List (Nat × LD) := [(3, ⟨⟨[(2, .ptr 0 []), (5, .row (.st .seat)), (8, .hole (.list .i)), (9, .hole .i), (10, .hole .i)], [(0, (.arr 64 (.st .entry)), .hole (.arr 64 (.st .entry)))], []⟩, [(.exit 0, ⟨[(5, .row (.st .seat))], [], []⟩)], 13, []⟩)]
noncomputable def Ls_plan_leavers : List (Nat × List (Nat × LD)) := []
noncomputable def B_plan_leavers : Bodies := []
theorem run_plan_leavers (x : denL [(.arr 64 (.st .entry)), (.list .i)]) : run [(82, c_roster_Find)] L_plan_leavers Ls_plan_leavers B_plan_leavers Tryd.f58 [(.arr 64 (.st .entry)), (.list .i)] [(.list (.st .seat))] x = g_plan_leavers x := by kernel_rfl
theorem ok_plan_leavers : ConOK Tryd.prog 58 c_plan_leavers := con_ok (ConsOK.cons ok_roster_Find (ConsOK.nil)) L_plan_leavers Ls_plan_leavers (B := B_plan_leavers) (BodiesOK.nil) Tryd.func58 rfl fun x y hf h => (run_plan_leavers x).trans (eq_plan_leavers x y hf h)
noncomputable def L_roster_names : List (Nat × LD) := []
noncomputable def Ls_roster_names : List (Nat × List (Nat × LD)) := [(96, [(2, ⟨⟨[(0, .asl 0 []), (1, .fn 100 [1, 2]), (7, .hole .i), (8, .hole .i)], [(0, (.arr 64 (.st .entry)), .hole (.arr 64 (.st .entry))), (1, .i, .hole .i), (2, .i, .hole .i)], []⟩, [(.ret, ⟨[(4, .hole .i)], [(0, (.arr 64 (.st .entry)), .hole (.arr 64 (.st .entry))), (1, .i, .hole .i), (2, .i, .hole .i)], []⟩), (.exit 0, ⟨[], [(0, (.arr 64 (.st .entry)), .hole (.arr 64 (.st .entry))), (1, .i, .hole .i), (2, .i, .hole .i)], []⟩)], 10, []⟩)])]
noncomputable def B_roster_names : Bodies := [bodyLine 100 Tryd.f100, bodyLine 99 Tryd.f99, bodyLine 96 Tryd.f96]
theorem run_roster_names (x : denL [(.arr 64 (.st .entry)), .i, .i]) : run [] L_roster_names Ls_roster_names B_roster_names Tryd.f86 [(.arr 64 (.st .entry)), .i, .i] [.bool] x = g_roster_names x := by kernel_rfl
theorem ok_roster_names : ConOK Tryd.prog 86 c_roster_names := con_ok (ConsOK.nil) L_roster_names Ls_roster_names (B := B_roster_names) (BodiesOK.cons Tryd.func100 rfl (BodiesOK.cons Tryd.func99 rfl (BodiesOK.cons Tryd.func96 rfl (BodiesOK.nil)))) Tryd.func86 rfl fun x y hf h => (run_roster_names x).trans (eq_roster_names x y hf h)
noncomputable def L_roster_Fits : List (Nat × LD) := []
noncomputable def Ls_roster_Fits : List (Nat × List (Nat × LD)) := [(81, [(2, ⟨⟨[(1, .hole .bool), (2, .hole .i), (3, .ptr 3 []), (4, .ptr 0 []), (11, .hole (.list .i)), (12, .hole .i), (13, .hole .i)], [(0, (.arr 64 (.st .entry)), .hole (.arr 64 (.st .entry))), (1, (.st .batch), .hole (.st .batch)), (3, .bool, .mp 2)], [(2, .i, .i)]⟩, [(.ret, ⟨[(8, .hole .i)], [(0, (.arr 64 (.st .entry)), .hole (.arr 64 (.st .entry))), (1, (.st .batch), .hole (.st .batch)), (3, .bool, .mp 2)], [(2, .i, .i)]⟩), (.exit 0, ⟨[], [(0, (.arr 64 (.st .entry)), .hole (.arr 64 (.st .entry))), (1, (.st .batch), .hole (.st .batch)), (3, .bool, .mp 2)], [(2, .i, .i)]⟩)], 10, []⟩)])]
noncomputable def B_roster_Fits : Bodies := [bodyLine 81 Tryd.f81]
theorem run_roster_Fits (x : denL [(.arr 64 (.st .entry)), (.st .batch)]) : run [(80, c_roster_Check), (82, c_roster_Find), (65, c_roster_Taken), (83, c_seats_Count)] L_roster_Fits Ls_roster_Fits B_roster_Fits Tryd.f57 [(.arr 64 (.st .entry)), (.st .batch)] [.i] x = g_roster_Fits x := by kernel_rfl
theorem ok_roster_Fits : ConOK Tryd.prog 57 c_roster_Fits := con_ok (ConsOK.cons ok_roster_Check (ConsOK.cons ok_roster_Find (ConsOK.cons ok_roster_Taken (ConsOK.cons ok_seats_Count (ConsOK.nil))))) L_roster_Fits Ls_roster_Fits (B := B_roster_Fits) (BodiesOK.cons Tryd.func81 rfl (BodiesOK.nil)) Tryd.func57 rfl fun x y hf h => (run_roster_Fits x).trans (eq_roster_Fits x y hf h)
end Go.Proofs.YtplmbkgjaobhgaaDoor
end

section
namespace Go.Co
open Go Go.RowKit

/-- It speaks of cells alone. -/
structure Cl {α : Type} (n0 : Nat) (I : List α → World → Prop) : Prop where
  alloc : ∀ s A o, o.isCells = false → I s A → I s (A.alloc o)
  putObj : ∀ s A l o o', n0 ≤ l → I s A → A.heap[l]? = some o → o.isCells = false → o'.isCells = false → I s (A.putObj l o')
/-- What a round must achieve. -/
def roundPost {α : Type} (Be : Nat) (I : List α → World → Prop) (Ix : Code → List α → World → Prop) (xs : List α) (W : World) : Exit → Act → World → Prop
  | .normal, _, W' => KeepsOthers W W' ∧ W'.heap[Be]? = W.heap[Be]? ∧ I xs W'
  | .ret, _, W' => KeepsOthers W W' ∧ Ix .ret xs W'
  | .exit id, _, W' => KeepsOthers W W' ∧ Ix (.exit id) xs W'
  | _, _, _ => False
theorem rangeFunc_box {F : Fence} {n : Nat} {P : Program} {α : Type} {g : Operand} {ps : Array Tmp} {assign body : Code} {Q : Exit → Act → World → Prop} {a : Act} {w : World}
    (hro : F.round = none) (h1 : 1 ≤ n) {gf : Nat} {lb : Array Value} (hg : a.eval g = .func (.func gf) #[] lb) (hFg : F.fn gf) (eg : ∀ args w, (callFunc gf args).run P w = .ok (.enter gf args) w)
    {encs : α → Array Value} {Be : Nat} {tB : TypeId} {xB : Value} {G : World → Prop} {xs : List α} (hps : ∀ x, (encs x).size = ps.size)
    (hseq : ∀ (l : Nat) (J Jx : List α → World → Prop) (W : World), (∀ pre A x v, J pre A → Boxed A Be tB x → J pre (A.setCell ⟨Be, 0, none⟩ v)) → (∀ pre A, J pre A → G A) →
      (∀ pre x W, J pre W → pre ++ [x] <+: xs → YieldAt F (n - 1 - 1) P l (encs x) W fun e W' => (e = .returned (.bool true) ∧ J (pre ++ [x]) W' ∧ W'.heap[Be]? = W.heap[Be]?) ∨ (e = .returned (.bool false) ∧ Jx (pre ++ [x]) W')) →
      Boxed W Be tB xB → J [] W → CallsIn F (n - 1) P gf (#[.func (.yield l) #[] #[]] ++ lb) W fun e W' => (∃ v, e = .returned v) ∧ (J xs W' ∨ ∃ pre, pre <+: xs ∧ Jx pre W'))
    (hB : Boxed w Be tB xB) (I : List α → World → Prop) (Ix : Code → List α → World → Prop) (hI : Cl w.heap.size I) (hIx : ∀ c, Cl w.heap.size (Ix c)) (hset : ∀ pre A x v, I pre A → Boxed A Be tB x → I pre (A.setCell ⟨Be, 0, none⟩ v)) (hG : ∀ pre A, I pre A → G A) (h0 : I [] w) (a₁ : α → Act)
    (hassign : ∀ (l : Nat) (x : α) (W : World) (K : Act → World → Prop), K (a₁ x) W →
      assign.wpIn (F.inRound l) (n - 1 - 1) P (Exit.then K (fun _ _ _ => False)) { tmps := (ps.zip (encs x)).foldl (fun t (p, v) => t.setIfInBounds p v) a.tmps, defers := [] } W)
    (hbody : ∀ (l : Nat) (pre : List α) (x : α) (W : World), I pre W → pre ++ [x] <+: xs → body.wpIn (F.inRound l) (n - 1 - 1) P (roundPost Be I Ix (pre ++ [x]) W) (a₁ x) W)
    (hdone : ∀ (D : Nat) (W : World), I xs W → W.heap[D]? = some (.deferred (some [])) → w.heap.size ≤ D → Q .normal { a with defers := { target := .collected D, args := #[] } :: a.defers } W)
    (hstop : ∀ (D : Nat) (c : Code) (pre : List α) (W : World), pre <+: xs → Ix c pre W → W.heap[D]? = some (.deferred (some [])) → w.heap.size ≤ D → c.wpIn F n P Q { a with defers := { target := .collected D, args := #[] } :: a.defers } W) :
    (Code.rangeFunc g ps assign body).wpIn F n P Q a w := by
  refine wpIn_rangeFunc ?_
  intro fn hfn
  rw [hro]
  obtain ⟨rec, hrec⟩ : ∃ rec : LoopState → Option Code → Loop, rec = fun st pe => { state := st, pending := pe, fn, tmps := a.tmps, params := ps, assign, body, defers := w.heap.size } := ⟨_, rfl⟩
  obtain ⟨W1, hW1⟩ : ∃ W1, (w.alloc (.deferred (some []))).alloc (.loop (rec .ready none)) = W1 := ⟨_, rfl⟩
  have hL1 : W1.heap[w.heap.size + 1]? = some (.loop (rec .ready none)) := by
    rw [← hW1]; have := World.alloc_heap_new (w.alloc (.deferred (some []))) (.loop (rec .ready none)); rwa [World.size_alloc] at this
  have hK1 : W1.heap[w.heap.size]? = some (.deferred (some [])) := by
    rw [← hW1]; exact (Below.heap_alloc _ _ _ (by simp)).trans (World.alloc_heap_new w _)
  have hI1 : I [] W1 := by rw [← hW1]; exact hI.alloc _ _ _ rfl (hI.alloc _ _ _ rfl h0)
  have hB1 : Boxed W1 Be tB xB := by rw [← hW1]; exact (hB.alloc _).alloc _
  have hBlt : Be < w.heap.size := hB.lt
  refine ⟨w.heap.size + 1, [{ target := .collected w.heap.size, args := #[] }], W1, { target := .fn (.func gf) lb, args := #[.func (.yield (w.heap.size + 1)) #[] #[]] }, W1, gf,
    #[.func (.yield (w.heap.size + 1)) #[] #[]] ++ lb, W1, ?_, ?_, ?_, ?_, fun _ => h1, ?_⟩
  · rw [← hW1, hrec]; exact run_enterLoop_outer _ _ _ _ _
  · simp only [resolve, hg]
    simp [go_sem]
  · intro f' hf'; simp [Target.leads] at hf'; subst hf'; exact hFg
  · simp [invoke, go_sem, eg]
  · refine (hseq (w.heap.size + 1)
      (fun pre W => I pre W ∧ W.heap[w.heap.size + 1]? = some (.loop (rec .ready none)) ∧ W.heap[w.heap.size]? = some (.deferred (some [])))
      (fun pre W => ∃ c, Ix c pre W ∧ W.heap[w.heap.size + 1]? = some (.loop (rec .done (some c))) ∧ W.heap[w.heap.size]? = some (.deferred (some [])))
      W1 ?_ (fun pre A h => hG pre A h.1) ?_ hB1 ⟨hI1, hL1, hK1⟩).mono ?_
    · rintro pre A x v ⟨hi, hl, hk⟩ hb
      exact ⟨hset _ _ _ _ hi hb, (KeepsOthers.setCell A _ v).same _ _ hl rfl, (KeepsOthers.setCell A _ v).same _ _ hk rfl⟩
    · -- one round
      rintro pre x W ⟨hi, hl, hk⟩ hpre
      have hlt : w.heap.size + 1 < W.heap.size := (Array.getElem?_eq_some_iff.1 hl).1
      have hy := run_yield (P := P) (args := encs x) hl (by rw [hrec]; exact hps x)
      rw [hrec] at hy
      refine ⟨fn, _, assign, body, hy, roundIn_of_wpIn hfn (hassign _ x W _ ⟨_, run_beginRound hl (by rw [hrec]), ?_⟩)⟩
      have hl2 : (W.putObj (w.heap.size + 1) (.loop { rec .ready none with state := .busy })).heap[w.heap.size + 1]? = some (.loop { rec .ready none with state := .busy }) := World.putObj_heap_same hlt
      have hk2 : (W.putObj (w.heap.size + 1) (.loop { rec .ready none with state := .busy })).heap[w.heap.size]? = some (.deferred (some [])) := (World.putObj_heap_other (by omega)).trans hk
      have hb2 : (W.putObj (w.heap.size + 1) (.loop { rec .ready none with state := .busy })).heap[Be]? = W.heap[Be]? := World.putObj_heap_other (by omega)
      refine wpIn_mono (hbody _ pre x _ (hI.putObj _ _ _ _ _ (by omega) hi hl rfl rfl) hpre) ?_
      have fin : ∀ (jump : Option Code) (W3 : World), KeepsOthers (W.putObj (w.heap.size + 1) (.loop { rec .ready none with state := .busy })) W3 →
          (Instr.endRound (w.heap.size + 1) jump).run P W3 = .ok (.bool jump.isNone) (W3.putObj (w.heap.size + 1) (.loop (rec (if jump.isNone then .ready else .done) jump))) ∧
          W3.heap[w.heap.size + 1]? = some (.loop { rec .ready none with state := .busy }) ∧
          (W3.putObj (w.heap.size + 1) (.loop (rec (if jump.isNone then .ready else .done) jump))).heap[w.heap.size + 1]? = some (.loop (rec (if jump.isNone then .ready else .done) jump)) ∧
          (W3.putObj (w.heap.size + 1) (.loop (rec (if jump.isNone then .ready else .done) jump))).heap[w.heap.size]? = some (.deferred (some [])) := fun jump W3 hk3 => by
        have hl3 := hk3.same _ _ hl2 rfl
        have := run_endRound (P := P) jump hl3
        rw [hrec] at this ⊢
        exact ⟨this, by rw [hrec] at hl3; exact hl3, World.putObj_heap_same (Array.getElem?_eq_some_iff.1 hl3).1, (World.putObj_heap_other (by omega)).trans (hk3.same _ _ hk2 rfl)⟩
      rintro e a3 W3 hp
      cases e with
      | normal =>
        obtain ⟨hk3, hb3, hi3⟩ := hp
        obtain ⟨hr, hl3, hl4, hk4⟩ := fin none W3 hk3
        exact ⟨_, _, hr, .inl ⟨rfl, ⟨hI.putObj _ _ _ _ _ (by omega) hi3 hl3 rfl rfl, hl4, hk4⟩, ((World.putObj_heap_other (by omega)).trans hb3).trans hb2⟩⟩
      | ret =>
        obtain ⟨hk3, hi3⟩ := hp
        obtain ⟨hr, hl3, hl4, hk4⟩ := fin (some .ret) W3 hk3
        exact ⟨_, _, hr, .inr ⟨rfl, .ret, (hIx _).putObj _ _ _ _ _ (by omega) hi3 hl3 rfl rfl, hl4, hk4⟩⟩
      | exit id =>
        obtain ⟨hk3, hi3⟩ := hp
        obtain ⟨hr, hl3, hl4, hk4⟩ := fin (some (.exit id)) W3 hk3
        exact ⟨_, _, hr, .inr ⟨rfl, .exit id, (hIx _).putObj _ _ _ _ _ (by omega) hi3 hl3 rfl rfl, hl4, hk4⟩⟩
      | goto t => exact hp.elim
      | panic ch => exact hp.elim
      | outgrown => exact hp.elim
    · -- behind the iterator
      rintro e W2 ⟨⟨v, rfl⟩, (⟨hi, hl, hk⟩ | ⟨pre, hpre, c, hi, hl, hk⟩)⟩
      · exact ⟨none, _, by have := run_endLoop (P := P) hl (by rw [hrec]; simp); rw [hrec] at this; exact this, hdone _ _ (hI.putObj _ _ _ _ _ (by omega) hi hl rfl rfl) ((World.putObj_heap_other (by omega)).trans hk) (Nat.le_refl _)⟩
      · exact ⟨some c, _, by have := run_endLoop (P := P) hl (by rw [hrec]; simp); rw [hrec] at this; exact this, hstop _ c pre _ hpre ((hIx c).putObj _ _ _ _ _ (by omega) hi hl rfl rfl) ((World.putObj_heap_other (by omega)).trans hk) (Nat.le_refl _)⟩

/-! ### Nothing is frozen by an append -/
theorem fz_alloc (w : World) (o : Obj) (ho : ∀ cs e f, o = .cells cs e f → f = (0, 0)) (a : Addr) : (w.alloc o).frozen? a = w.frozen? a := by
  by_cases h : a.block = w.heap.size
  · have h1 : (w.alloc o).heap[a.block]? = some o := by rw [h]; exact World.alloc_heap_new w o
    have h2 : w.heap[a.block]? = none := by rw [h]; simp
    unfold World.frozen?
    rw [h1, h2]
    cases o with
    | cells cs e f => have := ho cs e f rfl; subst this; simp
    | _ => rfl
  · by_cases hlt : a.block < w.heap.size
    · exact frozen_same (Below.heap_alloc _ _ _ hlt)
    · have h1 : (w.alloc o).heap[a.block]? = none := Array.getElem?_eq_none (by have := World.size_alloc w o; omega)
      have h2 : w.heap[a.block]? = none := Array.getElem?_eq_none (by omega)
      exact frozen_same (h1.trans h2.symm)
theorem fz_set (w : World) (b : Addr) (v : Value) (a : Addr) : (w.setCell b v).frozen? a = w.frozen? a := by rw [World.frozen?_setCell]
theorem fz_putObj (w : World) {l : Nat} {o : Obj} (o' : Obj) (hl : w.heap[l]? = some o) (ho : o.isCells = false) (ho' : o'.isCells = false) (a : Addr) : (w.putObj l o').frozen? a = w.frozen? a := by
  by_cases h : a.block = l
  · have h1 : (w.putObj l o').heap[a.block]? = some o' := by rw [h]; exact World.putObj_heap_same (Array.getElem?_eq_some_iff.1 hl).1
    have nc : ∀ o : Obj, o.isCells = false → ∀ w : World, w.heap[a.block]? = some o → w.frozen? a = false := fun o ho w hw => by
      unfold World.frozen?
      rw [hw]
      cases o <;> first | rfl | (simp [Obj.isCells] at ho)
    rw [nc o' ho' _ h1, nc o ho w (by rw [h]; exact hl)]
  · exact frozen_same (World.putObj_heap_other h)
theorem fz_append {P : Program} {w : World} {base : Nat} {t ty e : TypeId} {i : TypeInfo} {z : Value} (ht : P.underlying t = some (.slice e)) (hi : P.info? e = some i) (hz : i.zero = some z)
    {v : Value} {n : Nat} {xs : List Value} (hown : w.ownsRow base e i.size v n xs) {a : Addr} {m c : Nat} {news : List Value} (hl : news.length = m * i.size) (hnews : ∀ j u, news[j]? = some u → w.cell? (a.add j) = some u) (h1 : ∀ u ∈ news, u.oneCell' = true)
    (hm : 0 < m) (h63 : n + m ≤ maxLen) (hbytes : (n + m) * i.bytes ≤ 140737488355328) {v' : Value} {w' : World} (hrun : (Builtin.append_ #[t, t] ty #[v, .slice (some a) m c]).run P w = .ok v' w') (b : Addr) : w'.frozen? b = w.frozen? b := by
  have hsmall : n + m ≤ 9223372036854775807 := by simp only [maxLen] at h63; omega
  have new : ∀ cs : Array Value, (w.drew.alloc (.cells cs e)).frozen? b = w.frozen? b := fun cs => (fz_alloc w.drew _ (fun _ _ _ h => by cases h; rfl) b).trans rfl
  rcases hown.2 with ⟨rfl, rfl⟩ | ⟨g, cap, cur, rfl, _, hg, _, _, hcs, _⟩
  · rw [run_append_nil (P := P) w t ty e i z ht hi hz a m c news hl hnews hm (by omega) (by simp only [Nat.zero_add] at hbytes; omega)] at hrun
    cases hrun; exact new _
  · by_cases hroom : n + m ≤ cap
    · have hfit : n * i.size + news.length ≤ cur.size := by rw [hl, hcs, ← Nat.add_mul]; exact Nat.mul_le_mul_right _ hroom
      rw [run_append_room (P := P) w t ty e i ht hi g n cap cur hg a m c news hl hnews h1 hroom hfit] at hrun
      cases hrun
      by_cases hb : b.block = g
      · have := setRow_heap w g cur (cur.toList.take (n * i.size) ++ news ++ cur.toList.drop (n * i.size + news.length)).toArray e (0, 0) hg
        unfold World.frozen?
        rw [hb, this, hg]
      · exact frozen_same (setRow_other w g b.block _ hb)
    · have holds : ∀ j u, xs[j]? = some u → w.cell? ((⟨g, 0, none⟩ : Addr).add j) = some u := hown.cells (g := g) rfl
      rw [run_append_grow (P := P) w t ty e i z ht hi hz ⟨g, 0, none⟩ n cap xs hown.1 holds a m c news hl hnews (by omega) (by omega) (growslice_fits (by omega) hbytes)] at hrun
      cases hrun; exact new _
/-- An append to a row of one's own, in a walk; nothing is frozen by it. -/
theorem wpListIn_append_fz {F : Fence} {k : Nat} {P : Program} (w : World) {ops : Array Oper} {rest : List Oper} {o : Oper} {a : Act} {Q : Exit → Act → World → Prop}
    (hg : o.guard = none) (s x : Operand) (t : TypeId) (hop : o.op = Op.call { callee := Callee.builtin Builtin.append, args := #[s, x], argTypes := #[t, t] })
    (base : Nat) (e : TypeId) (i : TypeInfo) (z : Value) (size bytes : Nat) (h1 : P.underlying t = some (.slice e)) (h2 : P.info? e = some i) (h3 : i.zero = some z) (h4 : i.size = size) (h5 : i.bytes = bytes) (h6 : z.cells.size = size) (h7 : 0 < size)
    (v : Value) (n : Nat) (xs : List Value) (hs : a.eval s = v) (hown : w.ownsRow base e size v n xs) (ad : Addr) (m c : Nat) (news : List Value) (hx : a.eval x = .slice (some ad) m c) (hn : news.length = m * size)
    (hc : ∀ j u, news[j]? = some u → w.cell? (ad.add j) = some u) (h1c : ∀ u ∈ news, u.oneCell' = true) (hm : 0 < m) (b1 : n + m ≤ maxLen) (b2 : (n + m) * bytes ≤ 140737488355328) (b3 : base ≤ w.heap.size)
    (hK : ∀ v' w', w'.ownsRow base e size v' (n + m) (xs ++ news) → w.grownBy w' v.ownBlock → (v' = .slice none 0 0 ↔ v = .slice none 0 0 ∧ m = 0) → (∀ b, w'.frozen? b = w.frozen? b) → wpListIn F k P ops Q rest (a.put o.dst v') w') :
    wpListIn F k P ops Q (o :: rest) a w := by
  refine wpListIn_plain hg fun K hK' => ?_
  obtain ⟨v', w', hrun, r1, r2, r3⟩ := run_append_own (P := P) w base t o.type e i z size bytes h1 h2 h3 h4 h5 h6 h7 v n xs hown ad m c news hn hc h1c b1 b2 b3
  subst h4; subst h5
  have hz := fun b => fz_append h1 h2 h3 hown hn hc h1c hm b1 b2 hrun b
  unfold Oper.wpIn
  refine ⟨?_, ?_⟩
  · simp [Oper.about, hop, resolve, Target.leads, Sem.run_pure]
  · rw [Oper.semAt_plain F _ _ (by rw [hop]; intro c hc'; cases hc')]
    simp [execOp, hop, resolve, invoke, builtin, hs, hx, hrun, Result.andThen]
    exact hK' _ _ (hK v' w' r1 r2 r3 hz)
end Go.Co
end

section
namespace Go.Proofs.YtplmbkgjaobhgaaDoor
open Go Go.Co Go.Co.N Go.Proofs Go.RowKit Go.Shelf
attribute [local go_sem] Oper.semAt_some

theorem low_walk {x : Nat} (h0 : 0 < x) (h1 : x < 18446744073709551616) : 0 ≤ IntKind.u64.wrap (Go.bits BinOp.and IntKind.u64 (x : Int) (IntKind.u64.wrap (-(x : Int))) * 285870213051353865) / 288230376151711744 ∧
    IntKind.u64.wrap (Go.bits BinOp.and IntKind.u64 (x : Int) (IntKind.u64.wrap (-(x : Int))) * 285870213051353865) / 288230376151711744 < 64 ∧
    tab64[(IntKind.u64.wrap (Go.bits BinOp.and IntKind.u64 (x : Int) (IntKind.u64.wrap (-(x : Int))) * 285870213051353865) / 288230376151711744).toNat]? = some (tzN x) := by
  have e1 : IntKind.u64.wrap (-(x : Int)) = ((18446744073709551616 - x : Nat) : Int) := by
    show (-(x : Int)) % 18446744073709551616 = _
    omega
  have e2 : Go.bits BinOp.and IntKind.u64 (x : Int) ((18446744073709551616 - x : Nat) : Int) = ((x &&& (18446744073709551616 - x) : Nat) : Int) := bw_and64 _ _ h1 (by omega)
  have e3 : IntKind.u64.wrap (((x &&& (18446744073709551616 - x) : Nat) : Int) * 285870213051353865) = (((x &&& (18446744073709551616 - x)) * 285870213051353865 % 18446744073709551616 : Nat) : Int) := by
    show (((x &&& (18446744073709551616 - x) : Nat) : Int) * 285870213051353865) % 18446744073709551616 = _
    omega
  have hlt : (x &&& (18446744073709551616 - x)) * 285870213051353865 % 18446744073709551616 < 18446744073709551616 := Nat.mod_lt _ (by omega)
  rw [e1, e2, e3]
  refine ⟨by omega, by omega, ?_⟩
  have := tab_low h0 (show x < 2 ^ 64 by omega)
  rw [show (((((x &&& (18446744073709551616 - x)) * 285870213051353865 % 18446744073709551616 : Nat) : Int)) / 288230376151711744).toNat = (x &&& (18446744073709551616 - x)) * 285870213051353865 % 18446744073709551616 / 288230376151711744 by omega]
  exact this
theorem glob_name : ∃ gl, Tryd.prog.globals[0]? = some gl ∧ gl.name = "math/bits.deBruijn64tab" := by
  have h : (Tryd.prog.globals[0]?.map (·.name)) = some "math/bits.deBruijn64tab" := by kernel_rfl
  cases hg : Tryd.prog.globals[0]? with
  | none => rw [hg] at h; cases h
  | some gl => rw [hg] at h; exact ⟨gl, rfl, Option.some.inj h⟩
theorem wrap_tz {x : Nat} (h0 : 0 < x) (h1 : x < 18446744073709551616) : wrap64 (tzN x : Int) = (tzN x : Int) := by
  have := (bitsL_cons h0 (show x < 2 ^ 64 by omega)).1
  exact Go.IntWalk.wrap64_in _ (by omega)
set_option maxHeartbeats 1000000 in
theorem tz_in (F : Fence) (n : Nat) (hF : F.fn 104) (hro : F.round = none) (x : Nat) (h0 : 0 < x) (h1 : x < 18446744073709551616) (w : World) (hg : GOK Tryd.prog w) :
    CallsIn F n Tryd.prog 104 #[.int .u64 (x : Int)] w fun e w' => e = .returned (.int .i64 (tzN x : Int)) ∧ w' = w := by
  obtain ⟨b1, b2, b3⟩ := low_walk h0 h1
  obtain ⟨gl, g1, g2⟩ := glob_name
  have hc := hg 0 gl g1 g2 _ _ b3
  have hx : ¬ (x : Int) = 0 := by omega
  have hx2 : ((x : Int) == 0) = false := by simpa using hx
  refine callsIn_of_wp Tryd.func104 rfl hF ?_ hro
  simp only [Tryd.ntmps104, List.size_toArray, List.length_cons, List.length_nil, Nat.reduceAdd, Nat.reduceSub, Array.replicate_succ, Array.replicate_zero, List.push_toArray, List.append_toArray, List.nil_append, List.cons_append]
  gi_wp2
  rw [wrap_tz h0 h1]
  go_ret
  exact ⟨rfl, rfl⟩

/-! ### The iterator -/
/-- What a box holds of a word. -/
def boxW (W : World) (B : Nat) : Nat := match W.cell? ⟨B, 0, none⟩ with | some (.int _ x) => x.toNat | _ => 0
theorem boxW_eq {W : World} {B x : Nat} {t : TypeId} (h : Boxed W B t (.int .u64 (x : Int))) : boxW W B = x := by
  unfold boxW; rw [h.cell]; simp
theorem pred_walk {x : Nat} (h0 : 0 < x) (h1 : x < 18446744073709551616) : Go.bits BinOp.and IntKind.u64 (x : Int) ((x : Int) - 1) = ((x &&& (x - 1) : Nat) : Int) := by
  have e1 : (x : Int) - 1 = ((x - 1 : Nat) : Int) := by omega
  rw [e1]
  exact bw_and64 _ _ h1 (by omega)
set_option maxRecDepth 100000 in
set_option maxHeartbeats 2000000 in
theorem each1_in (F : Fence) (n : Nat) (h103 : F.fn 103) (h104 : F.fn 104) (hro : F.round = none) (hn : 1 ≤ n) (l Be : Nat) (x0 : Nat) (hx0 : x0 < 18446744073709551616) (J Jx : List Nat → World → Prop)
    (hJ : ∀ pre A x v, J pre A → Boxed A Be 67 x → J pre (A.setCell ⟨Be, 0, none⟩ v)) (hJg : ∀ pre A, J pre A → GOK Tryd.prog A)
    (hY : ∀ (pre : List Nat) (x : Nat) W, J pre W → pre ++ [x] <+: bitsL x0 → YieldAt F (n - 1) Tryd.prog l #[.int .i64 (x : Int)] W fun e W' =>
      (e = .returned (.bool true) ∧ J (pre ++ [x]) W' ∧ W'.heap[Be]? = W.heap[Be]?) ∨ (e = .returned (.bool false) ∧ Jx (pre ++ [x]) W'))
    (W : World) (hBe : Boxed W Be 67 (.int .u64 (x0 : Int))) (h0 : J [] W) :
    CallsIn F n Tryd.prog 103 #[.func (.yield l) #[] #[], .pointer (some ⟨Be, 0, none⟩)] W fun e W' => (∃ v, e = .returned v) ∧ (J (bitsL x0) W' ∨ (∃ pre, pre <+: bitsL x0 ∧ Jx pre W')) := by
  refine callsIn_of_wp Tryd.func103 rfl h103 ?_ hro
  simp only [Tryd.ntmps103, List.size_toArray, List.length_cons, List.length_nil, Nat.reduceAdd, Nat.reduceSub, Array.replicate_succ, Array.replicate_zero, List.push_toArray, List.append_toArray, List.nil_append, List.cons_append]
  gi_wp2
  gi_loopw [] (fun wr => ∃ (pre : List Nat) (rem : Nat), bitsL x0 = pre ++ bitsL rem ∧ rem < 18446744073709551616 ∧ Boxed wr Be 67 (.int .u64 (rem : Int)) ∧ J pre wr)
    (fun wr => boxW wr Be)
  case atStart => exact ⟨[], x0, rfl, hx0, hBe, h0⟩
  case round =>
    obtain ⟨pre, rem, hx, hlt, hb, hJs⟩ := hrel
    have hc := hb.cell
    by_cases hz : rem = 0
    · subst hz
      have hz0 : (((0 : Nat) : Int) == 0) = true := rfl
      gi_wp2
      go_end0
      rw [bitsL_zero, List.append_nil] at hx
      exact ⟨⟨_, rfl⟩, .inl (by rw [hx]; exact hJs)⟩
    · have hz0 : (((rem : Nat) : Int) == 0) = false := by simpa using hz
      obtain ⟨k1, k2, k3⟩ := bitsL_cons (show 0 < rem by omega) (show rem < 2 ^ 64 by omega)
      have hpre : pre ++ [tzN rem] <+: bitsL x0 := ⟨bitsL (rem &&& (rem - 1)), by rw [hx, k2]; simp⟩
      obtain ⟨fn, tmps, assign, body, hy, hR⟩ := hY pre (tzN rem) wr hJs hpre
      gi_wp2_with (gi_at_call 104; refine (tz_in F (n - 1) h104 hro rem (by omega) hlt wr (hJg _ _ hJs)).mono ?_; rintro e w' ⟨rfl, rfl⟩)
      refine hR.mono ?_
      rintro e W3 (⟨rfl, hJ3, hk3⟩ | ⟨rfl, hJx3⟩)
      · have hb3 : Boxed W3 Be 67 (.int .u64 (rem : Int)) := hk3.trans hb
        have hc3 := hb3.cell
        have hf3 := hb3.frozen
        gi_wp2
        rw [pred_walk (by omega) hlt]
        go_roundw
        case rel => exact ⟨pre ++ [tzN rem], rem &&& (rem - 1), by rw [hx, k2]; simp, by omega, hb3.set _, hJ _ _ _ _ hJ3 hb3⟩
        case measure => rw [boxW_eq (hb3.set _), boxW_eq hb]; exact k3
      · gi_wp2
        refine bodyPost_ret (results_none rfl _ _ _) rfl ?_
        exact ⟨⟨_, rfl⟩, .inr ⟨pre ++ [tzN rem], hpre, hJx3⟩⟩
set_option maxHeartbeats 1000000 in
theorem each_in (F : Fence) (n : Nat) (hF : F.fn 101) (hro : F.round = none) (x : Int) (w : World) :
    CallsIn F n Tryd.prog 101 #[.int .u64 x] w fun e w' => e = .returned (.func (.func 103) #[] #[.pointer (some ⟨w.heap.size, 0, none⟩)]) ∧ w' = w.alloc (.cells #[.int .u64 x] 67) := by
  refine callsIn_of_wp Tryd.func101 rfl hF ?_ hro
  simp only [Tryd.ntmps101, List.size_toArray, List.length_cons, List.length_nil, Nat.reduceAdd, Nat.reduceSub, Array.replicate_succ, Array.replicate_zero, List.push_toArray, List.append_toArray, List.nil_append, List.cons_append]
  gi_wp2
  go_ret
  exact ⟨rfl, rfl⟩

/-! ### The least free slots -/
theorem count_calls (h : ConOK Tryd.prog 83 c_seats_Count) (s : Nat) (hs : s < 18446744073709551616) (w : World) (hg : GOK Tryd.prog w) :
    CallsIn Fence.wide 9 Tryd.prog 83 #[.int .u64 (s : Int)] w fun e w' => e = .returned (.int .i64 (cntW (s : Int))) ∧ Blw w.heap.size w w' := by
  refine callsIn_wide.2 (Calls.mono (h.run w (fun _ => False) ((s : Int), ()) [.int .u64 (s : Int)] _ hg (fun _ h => h.elim) ⟨⟨_, rfl, Rd.int.2 ⟨rfl, ?_⟩⟩, trivial⟩ rfl) ?_)
  · rw [inKind_iff]; show 0 ≤ (s : Int) ∧ (s : Int) ≤ 18446744073709551615; omega
  · rintro e w' ⟨z, rfl, hb, cs, hz, hr⟩
    have hr := (Rd.int.1 hr).1
    subst hr
    exact ⟨by rw [hz]; rfl, hb⟩
theorem bit_calls (h : ConOK Tryd.prog 102 c_seats_bit) (i : Nat) (hi : i < 64) (w : World) (hg : GOK Tryd.prog w) :
    CallsIn Fence.wide 7 Tryd.prog 102 #[.int .i64 (i : Int)] w fun e w' => e = .returned (.int .u64 ((2 ^ i : Nat) : Int)) ∧ Blw w.heap.size w w' := by
  refine callsIn_wide.2 (Calls.mono (h.run w (fun _ => False) ((i : Int), ()) [.int .i64 (i : Int)] _ hg (fun _ h => h.elim) ⟨⟨_, rfl, Rd.int.2 ⟨rfl, ?_⟩⟩, trivial⟩ rfl) ?_)
  · rw [inKind_iff]; show -9223372036854775808 ≤ (i : Int) ∧ (i : Int) ≤ 9223372036854775807; omega
  · rintro e w' ⟨z, rfl, hb, cs, hz, hr⟩
    have hr := (Rd.int.1 hr).1
    subst hr
    refine ⟨?_, hb⟩
    rw [hz]
    show Ending.returned (Value.int IntKind.u64 (bitOf (i : Int))) = _
    unfold bitOf
    rw [if_pos ⟨by omega, by omega⟩, Int.toNat_natCast]
/-- An answer of three. -/
def takeRes (W : World) (base : Nat) (z : Value) (l : List Nat) (s : Nat) : Prop := ∃ v, z = .tuple #[v, .int .u64 (s : Int), .int .i64 0] ∧ W.ownsRow base 3 1 v l.length (l.map fun (i : Nat) => Value.int .i64 (i : Int))
theorem region_key {F : Fence} {n : Nat} {P : Program} {c : Code} {K : Act → World → Prop} {X : Exit → Act → World → Prop} {a : Act} {w : World} (a' : Act) (Inv : World → Prop) (h1 : ∀ w', Inv w' → K a' w')
    (h2 : c.wpIn F n P (Exit.then (fun a w => a = a' ∧ Inv w) (fun _ _ _ => False)) a w) : c.wpIn F n P (Exit.then K X) a w :=
  Go.wpIn_mono h2 fun e a w h => by
    cases e with
    | normal => obtain ⟨rfl, h⟩ := h; exact h1 w h
    | _ => exact h.elim
theorem region_calm {F : Fence} {n : Nat} {P : Program} {c : Code} {K : Act → World → Prop} {X : Exit → Act → World → Prop} {a : Act} {w : World} (h : c.wpIn F n P (Exit.then K (fun _ _ _ => False)) a w) : c.wpIn F n P (Exit.then K X) a w :=
  Go.wpIn_mono h fun e a w h => by cases e <;> first | exact h | exact h.elim
theorem res87 (tmps : Array Value) (w : World) : (results Tryd.f87 tmps).run Tryd.prog w = .ok (.tuple #[tmps.getD 4 undef, tmps.getD 5 undef, tmps.getD 6 undef]) w := by
  simp [results, Tryd.f87, go_sem]
theorem compl_bits {s : Nat} (hs : s < 18446744073709551616) : Go.bits BinOp.xor IntKind.u64 IntKind.u64.max (s : Int) = ((18446744073709551615 - s : Nat) : Int) := by
  have hx : bw .xor .u64 ((18446744073709551615 : Nat) : Int) (s : Int) = ((18446744073709551615 ^^^ s : Nat) : Int) :=
    bwN (op := .xor) (f := fun a b => a ^^^ b) (fun a b ha hb => Nat.xor_lt_two_pow (n := 64) ha hb) (fun a b ha hb => by
      show (BitVec.ofNat 64 a ^^^ BitVec.ofNat 64 b).toNat = _
      simp [BitVec.toNat_xor, Nat.mod_eq_of_lt ha, Nat.mod_eq_of_lt hb]) _ _ (by omega) hs
  refine hx.trans ?_
  congr 1
  apply Nat.eq_of_testBit_eq
  intro i
  have h1 := Nat.testBit_two_pow_sub_one 64 i
  have h2 := Nat.testBit_two_pow_sub_succ (n := 64) (x := s) (by omega) i
  rw [Nat.testBit_xor, show (18446744073709551615 : Nat) = 2 ^ 64 - 1 from rfl, h1, show (2 : Nat) ^ 64 - 1 - s = 2 ^ 64 - (s + 1) by omega, h2]
  by_cases hi : i < 64
  · simp [hi]
  · have : s.testBit i = false := Nat.testBit_lt_two_pow (Nat.lt_of_lt_of_le (show s < 2 ^ 64 by omega) (Nat.pow_le_pow_right (by omega) (by omega)))
    simp [hi, this]
theorem bitI_nat (s i : Nat) : bitI (s : Int) i = s.testBit i := by
  unfold bitI
  rw [Nat.testBit_eq_decide_div_mod_eq]
  congr 1
  rw [show ((s : Int) / 2 ^ i) = ((s / 2 ^ i : Nat) : Int) by simp]
  simp only [eq_iff_iff]; omega
theorem bitsL_compl {s : Nat} (hs : s < 18446744073709551616) : bitsL (18446744073709551615 - s) = freeL (s : Int) := by
  unfold bitsL freeL
  refine List.filter_congr fun i hi => ?_
  have hi : i < 64 := by simpa using hi
  have h2 := Nat.testBit_two_pow_sub_succ (n := 64) (x := s) (by omega) i
  rw [show (18446744073709551615 : Nat) - s = 2 ^ 64 - (s + 1) by omega, h2, bitI_nat]
  simp [hi]
theorem freeL_len (s : Nat) : (freeL (s : Int)).length = 64 - cntW (s : Int) := by
  unfold freeL cntW
  rw [filter_cnt, filter_cnt]
  have := cntP_not (bitI (s : Int)) 64
  omega
theorem orL_snoc (s : Nat) (l : List Nat) (i : Nat) : orL s (l ++ [i]) = orL s l ||| 2 ^ i := by simp [orL]
theorem orL_lt {s : Nat} (hs : s < 18446744073709551616) : ∀ l : List Nat, (∀ i ∈ l, i < 64) → orL s l < 18446744073709551616 := by
  intro l
  induction l generalizing s with
  | nil => intro _; exact hs
  | cons i l ih =>
    intro h
    refine ih ?_ fun j hj => h j (List.mem_cons_of_mem _ hj)
    have h2 : (2 : Nat) ^ i < 2 ^ 64 := Nat.pow_lt_pow_right (by omega) (h i (List.mem_cons_self ..))
    exact Nat.or_lt_two_pow (n := 64) hs h2
theorem or_walk {a b : Nat} (ha : a < 18446744073709551616) (hb : b < 18446744073709551616) : Go.bits BinOp.or IntKind.u64 (a : Int) (b : Int) = ((a ||| b : Nat) : Int) := bw_or64 _ _ ha hb
theorem bitsL_lt {x i : Nat} (h : i ∈ bitsL x) : i < 64 := by
  unfold bitsL at h
  simp only [List.mem_filter, List.mem_range] at h
  exact h.1
/-- What the loop keeps. -/
def takeI (w : World) (s : Nat) (n : Int) (N0 Bo : Nat) (pre : List Nat) (W : World) : Prop :=
  Blw w.heap.size w W ∧ N0 ≤ W.heap.size ∧ Boxed W w.heap.size 67 (.int .u64 (orL s pre : Int)) ∧ Boxed W (w.heap.size + 1) 3 (.int .i64 n) ∧ pre.length ≤ n.toNat ∧ ∃ v, Boxed W Bo 40 v ∧ W.ownsRow N0 3 1 v pre.length (pre.map fun (i : Nat) => Value.int .i64 (i : Int))
theorem Boxed.putObj {A : World} {B : Nat} {t : TypeId} {v : Value} (h : Boxed A B t v) {l : Nat} {o o' : Obj} (hl : A.heap[l]? = some o) (ho : o.isCells = false) : Boxed (A.putObj l o') B t v := by
  have hne : B ≠ l := fun e => by
    rw [e] at h
    rw [show A.heap[l]? = _ from h] at hl
    cases hl; cases ho
  exact (World.putObj_heap_other hne).trans h
theorem ownsRow_base {W : World} {b b' : Nat} {e : TypeId} {size : Nat} {v : Value} {k : Nat} {xs : List Value} (h : W.ownsRow b e size v k xs) (hb : b' ≤ b) : W.ownsRow b' e size v k xs := by
  refine ⟨h.1, ?_⟩
  rcases h.2 with h | ⟨g, cap, cur, h1, h2, h3⟩
  · exact .inl h
  · exact .inr ⟨g, cap, cur, h1, by omega, h3⟩
theorem ownsRow_form {W : World} {b : Nat} {e : TypeId} {size : Nat} {v : Value} {k : Nat} {xs : List Value} (h : W.ownsRow b e size v k xs) : ∃ ad cap, v = .slice ad k cap := by
  rcases h.2 with ⟨rfl, rfl⟩ | ⟨g, cap, cur, rfl, _⟩
  · exact ⟨_, _, rfl⟩
  · exact ⟨_, _, rfl⟩
theorem keeps_blw {A B : World} (h : Blw A.heap.size A B) : KeepsOthers A B := ⟨h.size, fun j o ho _ => (h.block j (Array.getElem?_eq_some_iff.1 ho).1).trans ho⟩
theorem takeI_cl (w : World) (s : Nat) (n : Int) (N0 Bo n0 : Nat) (hn : w.heap.size ≤ n0) : Cl n0 (takeI w s n N0 Bo) := by
  constructor
  · rintro pre A o ho ⟨h1, h2, h3, h4, h5, v, h6, h7⟩
    refine ⟨⟨h1.toBelow.alloc h1.size o, fun a => (fz_alloc A o (fun _ _ _ e => by subst e; cases ho) a).trans (h1.fz a)⟩, by simp; omega, h3.alloc _, h4.alloc _, h5, v, h6.alloc _, h7.alloc _⟩
  · rintro pre A l o o' hl ⟨h1, h2, h3, h4, h5, v, h6, h7⟩ hlo ho ho'
    refine ⟨⟨⟨h1.os, h1.tape, h1.output, Nat.le_trans h1.size (grownBy_putObj' A l o').size, fun k hk => (World.putObj_heap_other (by omega)).trans (h1.block k hk)⟩, fun a => (fz_putObj A o' hlo ho ho' a).trans (h1.fz a)⟩, Nat.le_trans h2 (grownBy_putObj' A l o').size, Boxed.putObj h3 hlo ho, Boxed.putObj h4 hlo ho, h5, v, Boxed.putObj h6 hlo ho, ownsRow_putObj h7 _ hlo ho⟩
set_option maxRecDepth 100000 in
set_option maxHeartbeats 4000000 in
theorem take_in (hcn : ConOK Tryd.prog 83 c_seats_Count) (hbt : ConOK Tryd.prog 102 c_seats_bit) (s : Nat) (hs : s < 18446744073709551616) (n : Int) (hn : -9223372036854775808 ≤ n ∧ n ≤ 9223372036854775807) (w : World) (hg : GOK Tryd.prog w) :
    CallsIn Fence.wide 10 Tryd.prog 87 #[.int .u64 (s : Int), .int .i64 n] w fun e W' => ∃ z, e = .returned z ∧ Blw w.heap.size w W' ∧
      (n < 0 → z = .tuple #[.slice none 0 0, .int .u64 0, .int .i64 1]) ∧ (0 ≤ n → 64 - cntW (s : Int) < n → z = .tuple #[.slice none 0 0, .int .u64 0, .int .i64 18]) ∧
      (0 ≤ n → n ≤ 64 - cntW (s : Int) → takeRes W' w.heap.size z ((freeL (s : Int)).take n.toNat) (orL s ((freeL (s : Int)).take n.toNat))) := by
  refine callsIn_of_wp_marks Tryd.func87 rfl trivial ?_ rfl
  simp only [Tryd.ntmps87, List.size_toArray, List.length_cons, List.length_nil, Nat.reduceAdd, Nat.reduceSub, Array.replicate_succ, Array.replicate_zero, List.push_toArray, List.append_toArray, List.nil_append, List.cons_append]
  have hmx : Tryd.prog.follows .mixedOrders = true := by kernel_rfl
  gi_wp2
  · exact ⟨_, res87 _ _, _, rfl, ⟨((Below.refl _ w).alloc (Nat.le_refl _) _).alloc (by simp) _, fun a => (fz_alloc _ _ (fun _ _ _ h => by cases h; rfl) a).trans (fz_alloc _ _ (fun _ _ _ h => by cases h; rfl) a)⟩, fun _ => rfl, fun h => absurd h (by omega), fun h => absurd h (by omega)⟩
  · have bS : Boxed ((w.alloc (.cells #[.int .u64 (s : Int)] 67)).alloc (.cells #[.int .i64 n] 3)) w.heap.size 67 (.int .u64 (s : Int)) := (Boxed.new w 67 _).alloc _
    have bN : Boxed ((w.alloc (.cells #[.int .u64 (s : Int)] 67)).alloc (.cells #[.int .i64 n] 3)) (w.heap.size + 1) 3 (.int .i64 n) := by
      have := Boxed.new (w.alloc (.cells #[.int .u64 (s : Int)] 67)) 3 (.int .i64 n)
      rwa [World.size_alloc] at this
    have b0 : Blw w.heap.size w ((w.alloc (.cells #[.int .u64 (s : Int)] 67)).alloc (.cells #[.int .i64 n] 3)) := ⟨((Below.refl _ w).alloc (Nat.le_refl _) _).alloc (by simp) _, fun a => (fz_alloc _ _ (fun _ _ _ h => by cases h; rfl) a).trans (fz_alloc _ _ (fun _ _ _ h => by cases h; rfl) a)⟩
    generalize hW2 : (w.alloc (.cells #[.int .u64 (s : Int)] 67)).alloc (.cells #[.int .i64 n] 3) = W2 at *
    have hlt2 : w.heap.size + 2 ≤ W2.heap.size := by rw [← hW2]; simp
    have c1 := bS.cell
    have c2 := bN.cell
    have hg2 : GOK Tryd.prog W2 := hg.blw b0 (Nat.le_refl _)
    have hcw := cntW_le (s : Int)
    have hwr : IntKind.i64.wrap (64 - cntW (s : Int)) = 64 - cntW (s : Int) := i64_in _ (by omega)
    refine region_key { tmps := #[.int .u64 (s : Int), .int .i64 n, .pointer (some ⟨w.heap.size, 0, none⟩), .pointer (some ⟨w.heap.size + 1, 0, none⟩), .slice none 0 0, .int .u64 0, .int .i64 0, undef, undef, .bool (decide (n < 0)), .int .i64 n, .bool (decide (n < 0)), .bool (decide ((64 - cntW (s : Int)) < n)), .int .i64 n, .int .u64 (s : Int), .int .i64 (cntW (s : Int)), .int .i64 ((64 - cntW (s : Int))), .bool (decide ((64 - cntW (s : Int)) < n)), undef, undef, undef, undef, undef, undef, undef, undef, undef, undef, undef, undef, undef, undef, undef, undef, undef, undef], defers := [] }
      (fun w' => Blw w.heap.size w w' ∧ Boxed w' w.heap.size 67 (.int .u64 (s : Int)) ∧ Boxed w' (w.heap.size + 1) 3 (.int .i64 n)) ?_ ?_
    rotate_left
    · gi_region_with_o (refine ⟨trivial, ?_⟩; gi_at_call 83; refine (count_calls hcn s hs W2.drew hg2).mono ?_; rintro e w' ⟨rfl, hb⟩; have bS3 : Boxed w' w.heap.size 67 (.int .u64 (s : Int)) := (hb.block _ (show w.heap.size < W2.heap.size by omega)).trans bS; have bN3 : Boxed w' (w.heap.size + 1) 3 (.int .i64 n) := (hb.block _ (show w.heap.size + 1 < W2.heap.size by omega)).trans bN; have b3 : Blw w.heap.size w w' := (b0.trans ⟨(Below.refl _ W2).drew, fun _ => rfl⟩).trans (hb.mono (show w.heap.size ≤ W2.heap.size by omega)); have c3 := bS3.cell; have c4 := bN3.cell)
      all_goals exact ⟨rfl, b3, bS3, bN3⟩
    rintro w' ⟨b3, bS3, bN3⟩
    have c3 := bS3.cell
    have c4 := bN3.cell
    have bS4 := bS3.alloc (.cells #[.slice none 0 0] 40)
    have c5 := bS4.cell
    gi_wp2_with (refine ⟨trivial, ?_⟩; gi_at_call 101; refine (each_in Fence.wide 9 trivial rfl _ _).mono ?_; rintro e w2 ⟨rfl, rfl⟩)
    · exact ⟨_, res87 _ _, _, rfl, b3, fun h => absurd h (by omega), fun _ _ => rfl, fun _ h => absurd h (by omega)⟩
    · rw [compl_bits hs]
      have hle : w.heap.size + 2 ≤ w'.heap.size := by have := bN3.lt; omega
      have bS5 := bS4.alloc (.cells #[.int .u64 ((18446744073709551615 - s : Nat) : Int)] 67)
      have bN5 := (bN3.alloc (.cells #[.slice none 0 0] 40)).alloc (.cells #[.int .u64 ((18446744073709551615 - s : Nat) : Int)] 67)
      have bO5 := (Boxed.new w' 40 (.slice none 0 0)).alloc (.cells #[.int .u64 ((18446744073709551615 - s : Nat) : Int)] 67)
      have bE5 := Boxed.new (w'.alloc (.cells #[.slice none 0 0] 40)) 67 (.int .u64 ((18446744073709551615 - s : Nat) : Int))
      rw [World.size_alloc] at bE5
      have hB5 : Blw w.heap.size w ((w'.alloc (.cells #[.slice none 0 0] 40)).alloc (.cells #[.int .u64 ((18446744073709551615 - s : Nat) : Int)] 67)) := ⟨(b3.toBelow.alloc b3.size _).alloc (by simp; exact Nat.le_succ_of_le b3.size) _, fun a => ((fz_alloc _ _ (fun _ _ _ h => by cases h; rfl) a).trans (fz_alloc _ _ (fun _ _ _ h => by cases h; rfl) a)).trans (b3.fz a)⟩
      have hsz : ((w'.alloc (.cells #[.slice none 0 0] 40)).alloc (.cells #[.int .u64 ((18446744073709551615 - s : Nat) : Int)] 67)).heap.size = w'.heap.size + 2 := by simp
      generalize (w'.alloc (.cells #[.slice none 0 0] 40)).alloc (.cells #[.int .u64 ((18446744073709551615 - s : Nat) : Int)] 67) = W0 at *
      obtain ⟨i0, hi, hz0, hz1, hz2⟩ := info_parts (show (Tryd.prog.info? 3).map (fun i => (i.zero, i.size, i.bytes)) = some (some (.int .i64 0), 1, 8) by kernel_rfl)
      refine rangeFunc_box (n := 10) rfl (by omega) (gf := 103) (lb := #[.pointer (some ⟨w'.heap.size + 1, 0, none⟩)]) rfl trivial (enters_of Tryd.func103 (by kernel_rfl) rfl) (encs := fun x : Nat => #[Value.int .i64 (x : Int)]) (Be := w'.heap.size + 1) (tB := 67) (xB := .int .u64 ((18446744073709551615 - s : Nat) : Int)) (G := GOK Tryd.prog) (xs := bitsL (18446744073709551615 - s)) (fun _ => rfl)
        (fun l J Jx W hJ hG hY hB h0 => each1_in Fence.wide 9 trivial trivial rfl (by omega) l (w'.heap.size + 1) _ (by omega) J Jx hJ hG hY W hB h0)
        bE5 (takeI w s n W0.heap.size w'.heap.size) (fun c pre W => c = .exit 1 ∧ ∃ (pre0 : List Nat) (x : Nat), pre = pre0 ++ [x] ∧ pre0.length = n.toNat ∧ takeI w s n W0.heap.size w'.heap.size pre0 W)
        (takeI_cl w s n _ _ _ (by omega)) (fun c => ⟨fun pre A o ho ⟨h1, pre0, x, h2, h3, h4⟩ => ⟨h1, pre0, x, h2, h3, (takeI_cl w s n _ _ W0.heap.size (by omega)).alloc _ _ _ ho h4⟩, fun pre A l o o' hl ⟨h1, pre0, x, h2, h3, h4⟩ hlo ho ho' => ⟨h1, pre0, x, h2, h3, (takeI_cl w s n _ _ W0.heap.size (by omega)).putObj _ _ _ _ _ hl h4 hlo ho ho'⟩⟩)
        ?set (fun pre A h => hg.blw h.1 (Nat.le_refl _)) ⟨hB5, Nat.le_refl _, bS5, bN5, by simp, _, bO5, World.ownsRow_nil _ _ _ _⟩
        (fun x => { tmps := #[.int .u64 (s : Int), .int .i64 n, .pointer (some ⟨w.heap.size, 0, none⟩), .pointer (some ⟨w.heap.size + 1, 0, none⟩), .slice none 0 0, .int .u64 0, .int .i64 0, .pointer (some ⟨w'.heap.size, 0, none⟩), .int .i64 (x : Int), .bool (decide (n < 0)), .int .i64 n, .bool (decide (n < 0)), .bool (decide ((64 - cntW (s : Int)) < n)), .int .i64 n, .int .u64 (s : Int), .int .i64 (cntW (s : Int)), .int .i64 (64 - cntW (s : Int)), .bool (decide ((64 - cntW (s : Int)) < n)), .int .u64 (s : Int), .int .u64 ((18446744073709551615 - s : Nat) : Int), .func (.func 103) #[] #[.pointer (some ⟨w'.heap.size + 1, 0, none⟩)], .int .i64 (x : Int), undef, undef, undef, undef, undef, undef, undef, undef, undef, undef, undef, undef, undef, undef], defers := [] })
        ?assign ?body ?done ?stop
      case set =>
        rintro pre A x v ⟨h1, h2, h3, h4, h5, v', h6, h7⟩ hb
        have oth : ∀ {B : Nat} {t : TypeId} {u : Value}, B ≠ w'.heap.size + 1 → Boxed A B t u → Boxed (A.setCell ⟨w'.heap.size + 1, 0, none⟩ v) B t u := fun hne h => (Below.heap_setCell _ _ _ _ hne).trans h
        refine ⟨⟨h1.toBelow.setCell (p := ⟨w'.heap.size + 1, 0, none⟩) (show w.heap.size ≤ w'.heap.size + 1 by omega) _, fun a => (fz_set _ _ _ a).trans (h1.fz a)⟩, Nat.le_trans h2 (grownBy_setCell' A _ v).size, oth (by omega) h3, oth (by omega) h4, h5, v', oth (by omega) h6, h7.kept (grownBy_setCell' A _ v) ?_⟩
        rcases h7.2 with ⟨rfl, _⟩ | ⟨g, cap, cur, rfl, hbg, _⟩
        · exact .inl rfl
        · exact .inr (by simp [Value.ownBlock]; omega)
      case assign =>
        intro l x W K hK
        gi_wp2
        exact hK
      case body =>
        rintro l pre x W ⟨h1, h2, h3, h4, h5, v, h6, h7⟩ hpre
        have hx64 : x < 64 := bitsL_lt (hpre.subset (List.mem_append.2 (.inr (by simp))))
        have hp64 : ∀ i ∈ pre, i < 64 := fun i hi => bitsL_lt (hpre.subset (List.mem_append.2 (.inl hi)))
        have hol := orL_lt hs pre hp64
        have hxp : (2 : Nat) ^ x < 18446744073709551616 := Nat.pow_lt_pow_right (by omega) hx64
        have hplen : pre.length ≤ 64 := by
          have := hpre.length_le
          have h2 : (bitsL (18446744073709551615 - s)).length ≤ 64 := by unfold bitsL; have := List.length_filter_le (fun i => (18446744073709551615 - s).testBit i) (List.range 64); simpa using this
          simp at this; omega
        have hml : (65 : Nat) ≤ maxLen := by decide
        obtain ⟨ad, cap, rfl⟩ := ownsRow_form h7
        have k3 := h3.cell
        have k4 := h4.cell
        have k6 := h6.cell
        have k3f := h3.frozen
        have k6f := h6.frozen
        gi_wp2_with (gi_at_builtin; refine wpListIn_append_fz _ rfl _ _ 40 rfl W0.heap.size 3 i0 (.int .i64 0) 1 8 Tryd.underlying40 hi hz0 hz1 hz2 rfl (by decide) _ _ _ rfl (h7.alloc _) ⟨W.heap.size, 0, none⟩ 1 1 [.int .i64 (x : Int)] rfl rfl (cell_one_new _ _ _) (by simp [Value.oneCell']) (by omega) (by omega) (by omega) (by simp; omega) ?_; intro v' w1 hown' hgrow _ hfz; obtain ⟨g', cap', rfl⟩ := ownsRow_succ hown'; obtain ⟨hv1, hv2, hr2, hk2, hb2⟩ := h6.appended (by decide) (ownsRow_base h7 (show w'.heap.size ≤ W0.heap.size by omega)) (by omega) (Nat.le_refl _) (ownsRow_base hown' (show w'.heap.size ≤ W0.heap.size by omega)) hgrow; have hB3 : Blw w'.heap.size W (w1.setCell ⟨w'.heap.size, 0, none⟩ (.slice (some ⟨g', 0, none⟩) (pre.length + 1) cap')) := ⟨hb2, fun a => (fz_set _ _ _ a).trans ((hfz a).trans (fz_alloc _ _ (fun _ _ _ h => by cases h; rfl) a))⟩; clear hfz; have hc1 := hv1.cell; have hf1 := hv1.frozen)
        · refine ⟨KeepsOthers.refl _, rfl, pre, x, rfl, ?_, h1, h2, h3, h4, h5, _, h6, h7⟩
          have : ((pre.length : Int) == n) = true := by assumption
          have := eq_of_beq this
          omega
        · have hBe : (w1.setCell ⟨w'.heap.size, 0, none⟩ (.slice (some ⟨g', 0, none⟩) (pre.length + 1) cap')).heap[w'.heap.size + 1]? = W.heap[w'.heap.size + 1]? := by
            have hgr : World.grownBy _ w1 (Value.slice ad pre.length cap).ownBlock := hgrow
            refine (Below.heap_setCell _ _ _ _ (by simp)).trans ((hgr.block _ (by simp; omega) ?_).trans (Below.heap_alloc _ _ _ (by omega)))
            rcases h7.2 with ⟨e, _⟩ | ⟨g, cap2, cur, e, hbg, _⟩
            · rw [e]; simp [Value.ownBlock]
            · rw [e]; simp [Value.ownBlock]; omega
          have hne : pre.length ≠ n.toNat := fun e => by
            have : ((pre.length : Int) == n) = false := by assumption
            rw [beq_eq_false_iff_ne] at this
            omega
          have hr3 := hown'.kept (grownBy_setCell' w1 w'.heap.size (.slice (some ⟨g', 0, none⟩) (pre.length + 1) cap')) (.inr (hv1.not_row (by decide) hown').symm)
          have s3 := (hB3.block _ (show w.heap.size < w'.heap.size by omega)).trans h3
          have n3 := (hB3.block _ (show w.heap.size + 1 < w'.heap.size by omega)).trans h4
          have B3 : Blw w.heap.size w (w1.setCell ⟨w'.heap.size, 0, none⟩ (.slice (some ⟨g', 0, none⟩) (pre.length + 1) cap')) := h1.trans (hB3.mono (by omega))
          have sz3 : W0.heap.size ≤ (w1.setCell ⟨w'.heap.size, 0, none⟩ (.slice (some ⟨g', 0, none⟩) (pre.length + 1) cap')).heap.size := Nat.le_trans h2 hB3.size
          generalize w1.setCell ⟨w'.heap.size, 0, none⟩ (.slice (some ⟨g', 0, none⟩) (pre.length + 1) cap') = W3 at *
          have s3b : Boxed W3 w.heap.size 67 (.int .u64 (orL s pre : Int)) := s3
          have n3b : Boxed W3 (w.heap.size + 1) 3 (.int .i64 n) := n3
          have q1 := s3b.cell
          have q2 := s3b.frozen
          have B3d : Blw w.heap.size w W3.drew := B3.trans ⟨(Below.refl _ W3).drew, fun _ => rfl⟩
          have hg3 : GOK Tryd.prog W3.drew := hg.blw B3d (Nat.le_refl _)
          have fin : ∀ w4, Blw W3.heap.size W3.drew w4 → KeepsOthers W (w4.setCell ⟨w.heap.size, 0, none⟩ (.int .u64 (Go.bits BinOp.or IntKind.u64 (orL s pre : Int) (2 ^ x)))) ∧ (w4.setCell ⟨w.heap.size, 0, none⟩ (.int .u64 (Go.bits BinOp.or IntKind.u64 (orL s pre : Int) (2 ^ x)))).heap[w'.heap.size + 1]? = W.heap[w'.heap.size + 1]? ∧
              takeI w s n W0.heap.size w'.heap.size (pre ++ [x]) (w4.setCell ⟨w.heap.size, 0, none⟩ (.int .u64 (Go.bits BinOp.or IntKind.u64 (orL s pre : Int) (2 ^ x)))) := fun w4 hb4 => by
            have e2 : ((2 : Int) ^ x) = ((2 ^ x : Nat) : Int) := by simp
            rw [e2, or_walk hol hxp, ← orL_snoc]
            have s4 : Boxed w4 w.heap.size 67 (.int .u64 (orL s pre : Int)) := (hb4.block _ (show w.heap.size < W3.heap.size by omega)).trans s3b
            have n4 : Boxed w4 (w.heap.size + 1) 3 (.int .i64 n) := (hb4.block _ (show w.heap.size + 1 < W3.heap.size by omega)).trans n3b
            have o4 : Boxed w4 w'.heap.size 40 (.slice (some ⟨g', 0, none⟩) (pre.length + 1) cap') := (hb4.block _ (show w'.heap.size < W3.heap.size by omega)).trans hv2
            have hgl : g' < W3.heap.size := by
              rcases hr3.2 with ⟨e, _⟩ | ⟨g, cap2, cur, e, _, hgb, _⟩
              · cases e
              · cases e; exact (Array.getElem?_eq_some_iff.1 hgb).1
            have r4 : w4.ownsRow W0.heap.size 3 1 (.slice (some ⟨g', 0, none⟩) (pre.length + 1) cap') (pre.length + 1) ((pre.map fun (i : Nat) => Value.int .i64 (i : Int)) ++ [Value.int .i64 (x : Int)]) := by
              refine ⟨hr3.1, ?_⟩
              rcases hr3.2 with ⟨e, _⟩ | ⟨g, cap2, cur, e, k1, hgb, k2⟩
              · cases e
              · cases e
                exact .inr ⟨g', cap', cur, rfl, k1, (hb4.block _ hgl).trans hgb, k2⟩
            refine ⟨(hk2.trans (KeepsOthers.drew W3)).trans ((keeps_blw (A := W3.drew) hb4).trans (KeepsOthers.setCell _ _ _)), (Below.heap_setCell _ _ _ _ (by simp; omega)).trans ((hb4.block _ (show w'.heap.size + 1 < W3.heap.size by omega)).trans hBe), ?_⟩
            have b4 : Blw w.heap.size w w4 := B3d.trans (hb4.mono (by omega))
            refine ⟨⟨b4.toBelow.setCell (p := ⟨w.heap.size, 0, none⟩) (Nat.le_refl _) _, fun a => (fz_set _ _ _ a).trans (b4.fz a)⟩, Nat.le_trans (Nat.le_trans sz3 hb4.size) (grownBy_setCell' w4 _ _).size, s4.set _, (Below.heap_setCell _ _ _ _ (by simp)).trans n4, by simp; omega, _, (Below.heap_setCell _ _ _ _ (by simp; omega)).trans o4, ?_⟩
            have := r4.kept (grownBy_setCell' w4 w.heap.size (.int .u64 (orL s (pre ++ [x]) : Int))) (.inr (s4.not_row (by decide) r4).symm)
            simpa using this
          gi_region_with_o (refine ⟨trivial, ?_⟩; gi_at_call 102; refine (CallsIn.inRound l (bit_calls hbt x hx64 W3.drew hg3)).mono ?_; rintro e w4 ⟨rfl, hb4⟩; have s4 : Boxed w4 w.heap.size 67 (.int .u64 (orL s pre : Int)) := (hb4.block _ (show w.heap.size < W3.heap.size by omega)).trans s3b; have q3 := s4.cell; have q4 := s4.frozen)
          all_goals (gi_wp2; exact fin w4 hb4)
      case done =>
        rintro D W hT hK hD
        rw [bitsL_compl hs] at hT
        have hnn : 0 ≤ n := by omega
        have hlen := freeL_len s
        have h5' := hT.2.2.2.2.1
        have hall : (freeL (s : Int)).take n.toNat = freeL (s : Int) := List.take_of_length_le (by omega)
        obtain ⟨h1, h2, h3, h4, h5, v, h6, h7⟩ := hT
        obtain ⟨ad, cap, rfl⟩ := ownsRow_form h7
        have k3 := h3.cell
        have k6 := h6.cell
        gi_wp2
        refine region_calm ?_
        gi_region_with_o (fail)
        all_goals gi_wp2
        all_goals refine ⟨by simp, .inl ⟨_, _, rfl, run_takeDeferred (show W.drew.heap[D]? = _ from hK), ?_⟩⟩
        all_goals refine ⟨_, res87 _ _, _, rfl, ⟨⟨h1.os, h1.tape, h1.output, Nat.le_trans h1.size (grownBy_putObj' W.drew D (.deferred none)).size, fun k hk => (World.putObj_heap_other (by omega)).trans (h1.block k hk)⟩, fun a => (fz_putObj W.drew (.deferred none) hK rfl rfl a).trans (h1.fz a)⟩, fun h => absurd h (by omega), fun _ h => absurd h (by omega), fun _ _ => ?_⟩
        all_goals rw [hall]
        all_goals exact ⟨_, rfl, ownsRow_putObj (ownsRow_base h7 (by omega)) _ hK rfl⟩
      case stop =>
        rintro D c pre W hpre ⟨rfl, pre0, x, rfl, hl, hT⟩ hK hD
        rw [bitsL_compl hs] at hpre
        have hnn : 0 ≤ n := by omega
        have hall : (freeL (s : Int)).take n.toNat = pre0 := by
          obtain ⟨r, hr⟩ := hpre
          rw [← hr, ← hl]; simp
        clear hl
        obtain ⟨h1, h2, h3, h4, h5, v, h6, h7⟩ := hT
        obtain ⟨ad, cap, rfl⟩ := ownsRow_form h7
        have k3 := h3.cell
        have k6 := h6.cell
        gi_wp2
        refine region_calm ?_
        gi_region_with_o (fail)
        all_goals gi_wp2
        all_goals refine ⟨by simp, .inl ⟨_, _, rfl, run_takeDeferred (show W.drew.heap[D]? = _ from hK), ?_⟩⟩
        all_goals refine ⟨_, res87 _ _, _, rfl, ⟨⟨h1.os, h1.tape, h1.output, Nat.le_trans h1.size (grownBy_putObj' W.drew D (.deferred none)).size, fun k hk => (World.putObj_heap_other (by omega)).trans (h1.block k hk)⟩, fun a => (fz_putObj W.drew (.deferred none) hK rfl rfl a).trans (h1.fz a)⟩, fun h => absurd h (by omega), fun _ h => absurd h (by omega), fun _ _ => ?_⟩
        all_goals rw [hall]
        all_goals exact ⟨_, rfl, ownsRow_putObj (ownsRow_base h7 (by omega)) _ hK rfl⟩
theorem res_take {W : World} {im : Nat → Prop} {v : Value} {l : List Int} {s e : Int} {cs : List Value} (h1 : v = pk false cs) (h2 : Rd W im (.list .i) l cs) (hs : inKind .u64 s = true) (he : inKind .i64 e = true) :
    RV ⟨fun _ => none, W, im⟩ (resAV [.list .i, .int .u64, .i] (l, s, e, ())) (.tuple #[v, .int .u64 s, .int .i64 e]) := by
  refine ⟨[v, .int .u64 s, .int .i64 e], rfl, cs, _, ?_, h2, [.int .u64 s], _, rfl, Rd.int.2 ⟨rfl, hs⟩, [.int .i64 e], _, rfl, Rd.int.2 ⟨rfl, he⟩, rfl⟩
  rw [h1]; rfl
theorem row_ints {W : World} {base : Nat} {v : Value} {l : List Nat} (h : W.ownsRow base 3 1 v l.length (l.map fun (i : Nat) => Value.int .i64 (i : Int))) (hl : ∀ i ∈ l, i < 64) (hn : l.length ≤ 64) (im : Nat → Prop) (him : ∀ k, base ≤ k → k < W.heap.size → im k) :
    ∃ cs, v = pk false cs ∧ Rd W im (.list .i) (l.map fun (i : Nat) => (i : Int)) cs := by
  have hb : List.length (l.map fun (i : Nat) => (i : Int)) * Ty.bytes .i ≤ top := by
    rw [List.length_map]
    have : (64 : Nat) * Ty.bytes .i ≤ top := by decide
    exact Nat.le_trans (Nat.mul_le_mul_right _ hn) this
  rcases h.2 with ⟨rfl, h0⟩ | ⟨g, cap, cur, rfl, hbg, hg, hc, hcm, hsz, htk⟩
  · refine ⟨[.slice none 0 0], rfl, Rd.list.2 ⟨hb, .inl ⟨rfl, ?_⟩⟩⟩
    rw [List.length_eq_zero_iff.1 h0]; rfl
  · refine ⟨[.slice (some ⟨g, 0, none⟩) l.length cap], rfl, Rd.list.2 ⟨hb, .inr ⟨⟨g, 0, none⟩, cap, l.map fun (i : Nat) => [Value.int .i64 (i : Int)], by rw [List.length_map], fun _ => rfl, by rw [List.length_map]; exact hc, hcm, ?_, fun _ => him g hbg (Array.getElem?_eq_some_iff.1 hg).1, ?_⟩⟩⟩
    · clear h hn hb hc htk hsz
      induction l with
      | nil => trivial
      | cons i l ih =>
        refine ⟨Rd.int.2 ⟨rfl, ?_⟩, ih fun j hj => hl j (List.mem_cons_of_mem _ hj)⟩
        have := hl i (List.mem_cons_self ..)
        rw [inKind_iff]; show -9223372036854775808 ≤ (i : Int) ∧ (i : Int) ≤ 9223372036854775807; omega
    · intro j x hj
      have hfl : (l.map fun (i : Nat) => [Value.int .i64 (i : Int)]).flatten = l.map fun (i : Nat) => Value.int .i64 (i : Int) := by
        clear h hl hn hb hc htk hsz hj
        induction l with
        | nil => rfl
        | cons i l ih => simp [ih]
      rw [hfl, ← htk] at hj
      have hj2 : cur.toList[j]? = some x := by
        rw [List.getElem?_take] at hj
        split at hj
        · exact hj
        · cases hj
      have : cur[j]? = some x := by rw [← Array.getElem?_toList]; exact hj2
      simp [World.cell?, hg, this]
theorem ok_seats_Take_of (hcn : ConOK Tryd.prog 83 c_seats_Count) (hbt : ConOK Tryd.prog 102 c_seats_bit) : ConOK Tryd.prog 87 c_seats_Take := by
  refine ⟨FnOK.of Tryd.func87 rfl (by kernel_rfl), ?_, ?_⟩
  · decide
  · intro w I x xs y hg hI hx hxy
    obtain ⟨s, n, u⟩ := x
    change Int at s; change Int at n
    match xs, hx with
    | [a, b], hx =>
      obtain ⟨⟨c1, rfl, r1⟩, ⟨c2, rfl, r2⟩, _⟩ := hx
      obtain ⟨rfl, k1⟩ := Rd.int.1 r1
      obtain ⟨rfl, k2⟩ := Rd.int.1 r2
      rw [inKind_iff] at k1 k2
      have k1 : 0 ≤ s ∧ s ≤ 18446744073709551615 := k1
      have k2 : -9223372036854775808 ≤ n ∧ n ≤ 9223372036854775807 := k2
      obtain ⟨s, rfl⟩ : ∃ m : Nat, s = (m : Int) := ⟨s.toNat, by omega⟩
      have hs : s < 18446744073709551616 := by omega
      refine Calls.mono (callsIn_wide.1 (take_in hcn hbt s hs n k2 w hg)) ?_
      rintro e W ⟨z, rfl, hb, h1, h2, h3⟩
      refine ⟨z, rfl, hb, ?_⟩
      have hy : takeW (s : Int) n = (y.1, y.2.1, y.2.2.1) := by
        have : some ((takeW (s : Int) n).1, (takeW (s : Int) n).2.1, (takeW (s : Int) n).2.2, ()) = some y := hxy
        obtain rfl := Option.some.inj this
        rfl
      obtain ⟨yl, ys, ye, yu⟩ := y
      change takeW (s : Int) n = (yl, ys, ye) at hy
      unfold takeW at hy
      have hnil : ∀ im, Rd W im (.list .i) [] [.slice none 0 0] := fun im => Rd.list.2 ⟨by simp, .inl ⟨rfl, rfl⟩⟩
      by_cases hn : n < 0
      · rw [if_pos hn] at hy
        cases hy
        rw [h1 hn]
        exact res_take rfl (hnil _) (by decide) (by decide)
      · rw [if_neg hn] at hy
        by_cases hc : 64 - cntW (s : Int) < n
        · rw [if_pos hc] at hy
          cases hy
          rw [h2 (by omega) hc]
          exact res_take rfl (hnil _) (by decide) (by decide)
        · rw [if_neg hc] at hy
          cases hy
          obtain ⟨v, rfl, hr⟩ := h3 (by omega) (by omega)
          have hl64 : ∀ i ∈ (freeL (s : Int)).take n.toNat, i < 64 := fun i hi => by
            have := List.mem_of_mem_take hi
            unfold freeL at this
            simp only [List.mem_filter, List.mem_range] at this
            exact this.1
          have hlen : ((freeL (s : Int)).take n.toNat).length ≤ 64 := by
            have h1 := freeL_len s
            have h2 := List.length_take_le n.toNat (freeL (s : Int))
            have h3 := (cntW_le (s : Int)).1
            have h4 : ((freeL (s : Int)).take n.toNat).length ≤ (freeL (s : Int)).length := by rw [List.length_take]; omega
            omega
          obtain ⟨cs, e1, e2⟩ := row_ints hr hl64 hlen (fun k => k < W.heap.size ∧ (k < w.heap.size → I k)) (fun k a b => ⟨b, fun h => absurd h (by omega)⟩)
          have := orL_lt hs _ hl64
          refine res_take e1 e2 ?_ (by decide)
          rw [inKind_iff]; show 0 ≤ ((orL s _ : Nat) : Int) ∧ ((orL s _ : Nat) : Int) ≤ 18446744073709551615
          omega
end Go.Proofs.YtplmbkgjaobhgaaDoor
end

section
namespace Go.Proofs.YtplmbkgjaobhgaaDoor
open Go Go.Co Go.Co.N Go.Proofs
theorem ok_seats_Take : ConOK Tryd.prog 87 c_seats_Take := ok_seats_Take_of ok_seats_Count ok_seats_bit
noncomputable def L_roster_Move : List (Nat × LD) := [(11, ⟨⟨[(2, .hole .i), (3, .hole .i), (4, .ptr 0 []), (5, .ptr 1 []), (8, .ptr 2 []), (13, .row (.st .seat)), (14, .nils), (49, .hole (.list .i)), (50, .hole .i), (51, .hole .i)], [(0, (.arr 64 (.st .entry)), .hole (.arr 64 (.st .entry))), (1, (.st .batch), .hole (.st .batch)), (2, (.arr 64 (.st .entry)), .hole (.arr 64 (.st .entry)))], []⟩, [(.exit 1, ⟨[(2, .hole .i), (3, .hole .i), (4, .ptr 0 []), (5, .ptr 1 []), (8, .ptr 2 []), (13, .row (.st .seat)), (14, .nils)], [(0, (.arr 64 (.st .entry)), .hole (.arr 64 (.st .entry))), (1, (.st .batch), .hole (.st .batch)), (2, (.arr 64 (.st .entry)), .hole (.arr 64 (.st .entry)))], []⟩)], 13, []⟩), (19, ⟨⟨[(2, .hole .i), (3, .hole .i), (4, .ptr 0 []), (5, .ptr 1 []), (8, .ptr 2 []), (13, .row (.st .seat)), (14, .row (.st .seat)), (78, .hole (.list .i)), (79, .hole .i), (80, .hole .i)], [(0, (.arr 64 (.st .entry)), .hole (.arr 64 (.st .entry))), (1, (.st .batch), .hole (.st .batch)), (2, (.arr 64 (.st .entry)), .hole (.arr 64 (.st .entry)))], []⟩, [(.exit 3, ⟨[(4, .ptr 0 []), (8, .ptr 2 []), (13, .row (.st .seat)), (14, .row (.st .seat))], [(0, (.arr 64 (.st .entry)), .hole (.arr 64 (.st .entry))), (2, (.arr 64 (.st .entry)), .hole (.arr 64 (.st .entry)))], []⟩)], 14, []⟩)]
noncomputable def Ls_roster_Move : List (Nat × List (Nat × LD)) := []
noncomputable def B_roster_Move : Bodies := []
theorem run_roster_Move (x : denL [(.arr 64 (.st .entry)), (.st .batch), .i, .i]) : run [(57, c_roster_Fits), (86, c_roster_names), (82, c_roster_Find), (65, c_roster_Taken), (87, c_seats_Take)] L_roster_Move Ls_roster_Move B_roster_Move Tryd.f61 [(.arr 64 (.st .entry)), (.st .batch), .i, .i] [(.arr 64 (.st .entry)), (.list (.st .seat)), (.list (.st .seat)), .i] x = g_roster_Move x := by kernel_rfl
theorem ok_roster_Move : ConOK Tryd.prog 61 c_roster_Move := con_ok (ConsOK.cons ok_roster_Fits (ConsOK.cons ok_roster_names (ConsOK.cons ok_roster_Find (ConsOK.cons ok_roster_Taken (ConsOK.cons ok_seats_Take (ConsOK.nil)))))) L_roster_Move Ls_roster_Move (B := B_roster_Move) (BodiesOK.nil) Tryd.func61 rfl fun x y hf h => (run_roster_Move x).trans (eq_roster_Move x y hf h)
noncomputable def L_plan_step : List (Nat × LD) := []
noncomputable def Ls_plan_step : List (Nat × List (Nat × LD)) := []
noncomputable def B_plan_step : Bodies := []
theorem run_plan_step (x : denL [(.st .tree), (.st .batch)]) : run [(56, c_keytree_Check), (57, c_roster_Fits), (58, c_plan_leavers), (13, c_plan_Replaced), (59, c_bits_OnesCount32), (60, c_ratchet_Turn), (61, c_roster_Move)] L_plan_step Ls_plan_step B_plan_step Tryd.f38 [(.st .tree), (.st .batch)] [(.st .tree), (.st .rekey), .i] x = g_plan_step x := by kernel_rfl
theorem ok_plan_step : ConOK Tryd.prog 38 c_plan_step := con_ok (ConsOK.cons ok_keytree_Check (ConsOK.cons ok_roster_Fits (ConsOK.cons ok_plan_leavers (ConsOK.cons ok_plan_Replaced (ConsOK.cons ok_bits_OnesCount32 (ConsOK.cons ok_ratchet_Turn (ConsOK.cons ok_roster_Move (ConsOK.nil)))))))) L_plan_step Ls_plan_step (B := B_plan_step) (BodiesOK.nil) Tryd.func38 rfl fun x y hf h => (run_plan_step x).trans (eq_plan_step x y hf h)
noncomputable def L_plan_items : List (Nat × LD) := [(8, ⟨⟨[(3, .ptr 1 []), (5, .ptr 2 []), (6, .fn 62 [0, 2]), (7, .hole (.int .u64)), (8, .hole (.int .u32)), (9, .hole .i), (10, .hole .i)], [(0, (.st .tree), .hole (.st .tree)), (1, (.st .rekey), .hole (.st .rekey)), (2, (.list (.st .item)), .row (.st .item))], []⟩, [(.exit 2, ⟨[(3, .ptr 1 []), (5, .ptr 2 []), (6, .fn 62 [0, 2]), (7, .hole (.int .u64)), (8, .hole (.int .u32)), (9, .hole .i)], [(0, (.st .tree), .hole (.st .tree)), (1, (.st .rekey), .hole (.st .rekey)), (2, (.list (.st .item)), .row (.st .item))], []⟩)], 11, []⟩), (5, ⟨⟨[(3, .ptr 1 []), (5, .ptr 2 []), (6, .fn 62 [0, 2]), (7, .hole (.int .u64)), (8, .hole (.int .u32)), (9, .hole .i)], [(0, (.st .tree), .hole (.st .tree)), (1, (.st .rekey), .hole (.st .rekey)), (2, (.list (.st .item)), .row (.st .item))], []⟩, [(.exit 0, ⟨[(3, .ptr 1 []), (5, .ptr 2 []), (6, .fn 62 [0, 2]), (8, .hole (.int .u32))], [(0, (.st .tree), .hole (.st .tree)), (1, (.st .rekey), .hole (.st .rekey)), (2, (.list (.st .item)), .row (.st .item))], []⟩)], 21, []⟩), (18, ⟨⟨[(5, .ptr 2 []), (6, .fn 62 [0, 2]), (8, .hole (.int .u32)), (13, .ptr 25 []), (54, .hole (.list (.st .seat))), (55, .hole .i), (56, .hole .i), (66, .hole (.arr 3 .i)), (67, .hole .i)], [(0, (.st .tree), .hole (.st .tree)), (2, (.list (.st .item)), .row (.st .item)), (25, (.st .seat), .hole (.st .seat))], []⟩, [(.exit 6, ⟨[(5, .ptr 2 []), (6, .fn 62 [0, 2]), (8, .hole (.int .u32)), (54, .hole (.list (.st .seat))), (55, .hole .i), (56, .hole .i)], [(0, (.st .tree), .hole (.st .tree)), (2, (.list (.st .item)), .row (.st .item))], []⟩)], 11, []⟩), (14, ⟨⟨[(5, .ptr 2 []), (6, .fn 62 [0, 2]), (8, .hole (.int .u32)), (54, .hole (.list (.st .seat))), (55, .hole .i), (56, .hole .i)], [(0, (.st .tree), .hole (.st .tree)), (2, (.list (.st .item)), .row (.st .item))], []⟩, [(.exit 4, ⟨[(5, .ptr 2 [])], [(2, (.list (.st .item)), .row (.st .item))], []⟩)], 23, []⟩)]
noncomputable def Ls_plan_items : List (Nat × List (Nat × LD)) := []
noncomputable def B_plan_items : Bodies := [bodyLine 62 Tryd.f62]
theorem run_plan_items (x : denL [(.st .tree), (.st .rekey)]) : run [(64, c_plan_nodeKey), (63, c_key_Seal), (65, c_roster_Taken), (13, c_plan_Replaced), (66, c_shape_Child), (34, c_shape_Mask), (67, c_shape_Path), (35, c_shape_Leaf)] L_plan_items Ls_plan_items B_plan_items Tryd.f39 [(.st .tree), (.st .rekey)] [(.list (.st .item))] x = g_plan_items x := by kernel_rfl
theorem ok_plan_items : ConOK Tryd.prog 39 c_plan_items := con_ok (ConsOK.cons ok_plan_nodeKey (ConsOK.cons ok_key_Seal (ConsOK.cons ok_roster_Taken (ConsOK.cons ok_plan_Replaced (ConsOK.cons ok_shape_Child (ConsOK.cons ok_shape_Mask (ConsOK.cons ok_shape_Path (ConsOK.cons ok_shape_Leaf (ConsOK.nil))))))))) L_plan_items Ls_plan_items (B := B_plan_items) (BodiesOK.cons Tryd.func62 rfl (BodiesOK.nil)) Tryd.func39 rfl fun x y hf h => (run_plan_items x).trans (eq_plan_items x y hf h)
noncomputable def L_plan_Next : List (Nat × LD) := []
noncomputable def Ls_plan_Next : List (Nat × List (Nat × LD)) := []
noncomputable def B_plan_Next : Bodies := []
theorem run_plan_Next (x : denL [(.st .tree), (.st .batch)]) : run [(38, c_plan_step), (39, c_plan_items)] L_plan_Next Ls_plan_Next B_plan_Next Tryd.f16 [(.st .tree), (.st .batch)] [(.st .tree), (.st .rekey), .i] x = g_plan_Next x := by kernel_rfl
theorem ok_plan_Next : ConOK Tryd.prog 16 c_plan_Next := con_ok (ConsOK.cons ok_plan_step (ConsOK.cons ok_plan_items (ConsOK.nil))) L_plan_Next Ls_plan_Next (B := B_plan_Next) (BodiesOK.nil) Tryd.func16 rfl fun x y hf h => (run_plan_Next x).trans (eq_plan_Next x y hf h)
noncomputable def L_law12_three : List (Nat × LD) := []
noncomputable def Ls_law12_three : List (Nat × List (Nat × LD)) := []
noncomputable def B_law12_three : Bodies := []
theorem run_law12_three (x : denL []) : run [(52, c_ref11_Start), (29, c_ref12_Next)] L_law12_three Ls_law12_three B_law12_three Tryd.f33 [] [(.st .tree)] x = g_law12_three x := by kernel_rfl
theorem ok_law12_three : ConOK Tryd.prog 33 c_law12_three := con_ok (ConsOK.cons ok_ref11_Start (ConsOK.cons ok_ref12_Next (ConsOK.nil))) L_law12_three Ls_law12_three (B := B_law12_three) (BodiesOK.nil) Tryd.func33 rfl fun x y hf h => (run_law12_three x).trans (eq_law12_three x y hf h)
noncomputable def L_law12_lives : List (Nat × LD) := []
noncomputable def Ls_law12_lives : List (Nat × List (Nat × LD)) := []
noncomputable def B_law12_lives : Bodies := []
theorem run_law12_lives (x : denL []) : run [(33, c_law12_three), (16, c_plan_Next)] L_law12_lives Ls_law12_lives B_law12_lives Tryd.f12 [] [.bool] x = g_law12_lives x := by kernel_rfl
theorem ok_law12_lives : ConOK Tryd.prog 12 c_law12_lives := con_ok (ConsOK.cons ok_law12_three (ConsOK.cons ok_plan_Next (ConsOK.nil))) L_law12_lives Ls_law12_lives (B := B_law12_lives) (BodiesOK.nil) Tryd.func12 rfl fun x y hf h => (run_law12_lives x).trans (eq_law12_lives x y hf h)
end Go.Proofs.YtplmbkgjaobhgaaDoor
end

section
namespace Go.Co.N
open Go Go.Co

end Go.Co.N
end

section
namespace Go.Proofs.YtplmbkgjaobhgaaDoor
open Go Go.Co Go.Co.N Go.Proofs
end Go.Proofs.YtplmbkgjaobhgaaDoor
end

section
namespace Go.Proofs.YtplmbkgjaobhgaaDoor
open Go Go.Co Go.Co.N Go.Proofs
end Go.Proofs.YtplmbkgjaobhgaaDoor
end

section
namespace Go.Proofs.YtplmbkgjaobhgaaDoor
open Go Go.Co Go.Co.N Go.Proofs
noncomputable def LF_roster_Move : List (Nat × LD) := [(11, ⟨⟨[(2, .hole .i), (3, .hole .i), (4, .ptr 0 []), (5, .ptr 1 []), (8, .ptr 2 []), (13, .row (.st .seat)), (14, .nils), (49, .hole (.list .i)), (50, .hole .i), (51, .hole .i)], [(0, (.arr 64 (.st .entry)), .hole (.arr 64 (.st .entry))), (1, (.st .batch), .hole (.st .batch)), (2, (.arr 64 (.st .entry)), .hole (.arr 64 (.st .entry)))], []⟩, [(.exit 1, ⟨[(2, .hole .i), (3, .hole .i), (4, .ptr 0 []), (5, .ptr 1 []), (8, .ptr 2 []), (13, .row (.st .seat)), (14, .nils)], [(0, (.arr 64 (.st .entry)), .hole (.arr 64 (.st .entry))), (1, (.st .batch), .hole (.st .batch)), (2, (.arr 64 (.st .entry)), .hole (.arr 64 (.st .entry)))], []⟩)], 13, []⟩), (19, ⟨⟨[(2, .hole .i), (3, .hole .i), (4, .ptr 0 []), (5, .ptr 1 []), (8, .ptr 2 []), (13, .row (.st .seat)), (14, .row (.st .seat)), (78, .hole (.list .i)), (79, .hole .i), (80, .hole .i)], [(0, (.arr 64 (.st .entry)), .hole (.arr 64 (.st .entry))), (1, (.st .batch), .hole (.st .batch)), (2, (.arr 64 (.st .entry)), .hole (.arr 64 (.st .entry)))], []⟩, [(.exit 3, ⟨[(4, .ptr 0 []), (8, .ptr 2 []), (13, .row (.st .seat)), (14, .row (.st .seat))], [(0, (.arr 64 (.st .entry)), .hole (.arr 64 (.st .entry))), (2, (.arr 64 (.st .entry)), .hole (.arr 64 (.st .entry)))], []⟩)], 14, []⟩)]
noncomputable def LsF_roster_Move : List (Nat × List (Nat × LD)) := []
noncomputable def BF_roster_Move : Bodies := []
theorem frun_roster_Move (x : denL [(.arr 64 (.st .entry)), (.st .batch), .i, .i]) : frun [(57, c_roster_Fits), (86, c_roster_names), (82, c_roster_Find), (65, c_roster_Taken), (87, c_seats_Take)] [] LF_roster_Move LsF_roster_Move BF_roster_Move Tryd.f61 [(.arr 64 (.st .entry)), (.st .batch), .i, .i] [(.arr 64 (.st .entry)), (.list (.st .seat)), (.list (.st .seat)), .i] x = g_roster_Move x := by kernel_rfl
theorem fok_roster_Move : FConOK Tryd.prog 61 c_roster_Move := fcon_ok (FConsOK.cons rfl ok_roster_Fits (FConsOK.cons rfl ok_roster_names (FConsOK.cons rfl ok_roster_Find (FConsOK.cons rfl ok_roster_Taken (FConsOK.cons rfl ok_seats_Take (FConsOK.nil)))))) LF_roster_Move LsF_roster_Move (B := BF_roster_Move) (BodiesOK.nil) Tryd.func61 rfl fun x y hf h => (frun_roster_Move x).trans (eq_roster_Move x y hf h)
noncomputable def LF_plan_step : List (Nat × LD) := []
noncomputable def LsF_plan_step : List (Nat × List (Nat × LD)) := []
noncomputable def BF_plan_step : Bodies := []
theorem frun_plan_step (x : denL [(.st .tree), (.st .batch)]) : frun [(56, c_keytree_Check), (57, c_roster_Fits), (58, c_plan_leavers), (13, c_plan_Replaced), (59, c_bits_OnesCount32), (60, c_ratchet_Turn), (61, c_roster_Move)] [61] LF_plan_step LsF_plan_step BF_plan_step Tryd.f38 [(.st .tree), (.st .batch)] [(.st .tree), (.st .rekey), .i] x = g_plan_step x := by kernel_rfl
theorem fok_plan_step : FConOK Tryd.prog 38 c_plan_step := fcon_ok (FConsOK.cons rfl ok_keytree_Check (FConsOK.cons rfl ok_roster_Fits (FConsOK.cons rfl ok_plan_leavers (FConsOK.cons rfl ok_plan_Replaced (FConsOK.cons rfl ok_bits_OnesCount32 (FConsOK.cons rfl ok_ratchet_Turn (FConsOK.fcons rfl fok_roster_Move (FConsOK.nil)))))))) LF_plan_step LsF_plan_step (B := BF_plan_step) (BodiesOK.nil) Tryd.func38 rfl fun x y hf h => (frun_plan_step x).trans (eq_plan_step x y hf h)
noncomputable def LF_plan_items : List (Nat × LD) := [(8, ⟨⟨[(3, .ptr 1 []), (5, .ptr 2 []), (6, .fn 62 [0, 2]), (7, .hole (.int .u64)), (8, .hole (.int .u32)), (9, .hole .i), (10, .hole .i)], [(0, (.st .tree), .hole (.st .tree)), (1, (.st .rekey), .hole (.st .rekey)), (2, (.list (.st .item)), .row (.st .item))], []⟩, [(.exit 2, ⟨[(3, .ptr 1 []), (5, .ptr 2 []), (6, .fn 62 [0, 2]), (7, .hole (.int .u64)), (8, .hole (.int .u32)), (9, .hole .i)], [(0, (.st .tree), .hole (.st .tree)), (1, (.st .rekey), .hole (.st .rekey)), (2, (.list (.st .item)), .row (.st .item))], []⟩)], 11, []⟩), (5, ⟨⟨[(3, .ptr 1 []), (5, .ptr 2 []), (6, .fn 62 [0, 2]), (7, .hole (.int .u64)), (8, .hole (.int .u32)), (9, .hole .i)], [(0, (.st .tree), .hole (.st .tree)), (1, (.st .rekey), .hole (.st .rekey)), (2, (.list (.st .item)), .row (.st .item))], []⟩, [(.exit 0, ⟨[(3, .ptr 1 []), (5, .ptr 2 []), (6, .fn 62 [0, 2]), (8, .hole (.int .u32))], [(0, (.st .tree), .hole (.st .tree)), (1, (.st .rekey), .hole (.st .rekey)), (2, (.list (.st .item)), .row (.st .item))], []⟩)], 21, []⟩), (18, ⟨⟨[(5, .ptr 2 []), (6, .fn 62 [0, 2]), (8, .hole (.int .u32)), (13, .ptr 25 []), (54, .hole (.list (.st .seat))), (55, .hole .i), (56, .hole .i), (66, .hole (.arr 3 .i)), (67, .hole .i)], [(0, (.st .tree), .hole (.st .tree)), (2, (.list (.st .item)), .row (.st .item)), (25, (.st .seat), .hole (.st .seat))], []⟩, [(.exit 6, ⟨[(5, .ptr 2 []), (6, .fn 62 [0, 2]), (8, .hole (.int .u32)), (54, .hole (.list (.st .seat))), (55, .hole .i), (56, .hole .i)], [(0, (.st .tree), .hole (.st .tree)), (2, (.list (.st .item)), .row (.st .item))], []⟩)], 11, []⟩), (14, ⟨⟨[(5, .ptr 2 []), (6, .fn 62 [0, 2]), (8, .hole (.int .u32)), (54, .hole (.list (.st .seat))), (55, .hole .i), (56, .hole .i)], [(0, (.st .tree), .hole (.st .tree)), (2, (.list (.st .item)), .row (.st .item))], []⟩, [(.exit 4, ⟨[(5, .ptr 2 [])], [(2, (.list (.st .item)), .row (.st .item))], []⟩)], 23, []⟩)]
noncomputable def LsF_plan_items : List (Nat × List (Nat × LD)) := []
noncomputable def BF_plan_items : Bodies := [bodyLine 62 Tryd.f62]
theorem frun_plan_items (x : denL [(.st .tree), (.st .rekey)]) : frun [(64, c_plan_nodeKey), (63, c_key_Seal), (65, c_roster_Taken), (13, c_plan_Replaced), (66, c_shape_Child), (34, c_shape_Mask), (67, c_shape_Path), (35, c_shape_Leaf)] [] LF_plan_items LsF_plan_items BF_plan_items Tryd.f39 [(.st .tree), (.st .rekey)] [(.list (.st .item))] x = g_plan_items x := by kernel_rfl
theorem fok_plan_items : FConOK Tryd.prog 39 c_plan_items := fcon_ok (FConsOK.cons rfl ok_plan_nodeKey (FConsOK.cons rfl ok_key_Seal (FConsOK.cons rfl ok_roster_Taken (FConsOK.cons rfl ok_plan_Replaced (FConsOK.cons rfl ok_shape_Child (FConsOK.cons rfl ok_shape_Mask (FConsOK.cons rfl ok_shape_Path (FConsOK.cons rfl ok_shape_Leaf (FConsOK.nil))))))))) LF_plan_items LsF_plan_items (B := BF_plan_items) (BodiesOK.cons Tryd.func62 rfl (BodiesOK.nil)) Tryd.func39 rfl fun x y hf h => (frun_plan_items x).trans (eq_plan_items x y hf h)
noncomputable def LF_plan_Next : List (Nat × LD) := []
noncomputable def LsF_plan_Next : List (Nat × List (Nat × LD)) := []
noncomputable def BF_plan_Next : Bodies := []
theorem frun_plan_Next (x : denL [(.st .tree), (.st .batch)]) : frun [(38, c_plan_step), (39, c_plan_items)] [38, 39] LF_plan_Next LsF_plan_Next BF_plan_Next Tryd.f16 [(.st .tree), (.st .batch)] [(.st .tree), (.st .rekey), .i] x = g_plan_Next x := by kernel_rfl
theorem fok_plan_Next : FConOK Tryd.prog 16 c_plan_Next := fcon_ok (FConsOK.fcons rfl fok_plan_step (FConsOK.fcons rfl fok_plan_items (FConsOK.nil))) LF_plan_Next LsF_plan_Next (B := BF_plan_Next) (BodiesOK.nil) Tryd.func16 rfl fun x y hf h => (frun_plan_Next x).trans (eq_plan_Next x y hf h)
end Go.Proofs.YtplmbkgjaobhgaaDoor
end

section
namespace Go.Proofs.YtplmbkgjaobhgaaDoor
open Go Go.Co Go.Co.N Go.Proofs
noncomputable def L_law12_PlanMemory : List (Nat × LD) := [(12, ⟨⟨[(7, .ptr 10 []), (9, .ptr 12 []), (12, .ptr 17 []), (15, .ptr 22 []), (112, .hole .i), (113, .hole .i)], [(17, (.st .rekey), .agv  .rekey (.cons (.hole .i) (.cons (.slf 13) (.cons (.slf 14) (.cons (.slf 15) (.nil))))))], [(15, .unit, (.st .item))]⟩, [(.exit 0, ⟨[(7, .ptr 10 []), (9, .ptr 12 []), (12, .ptr 17 []), (15, .ptr 22 [])], [(17, (.st .rekey), .agv  .rekey (.cons (.hole .i) (.cons (.slf 13) (.cons (.slf 14) (.cons (.slf 15) (.nil))))))], [(15, .unit, (.st .item))]⟩)], 30, [0, 1, 4, 5, 8, 9, 10, 11, 12, 13, 14, 16, 18, 19, 20, 21, 22]⟩), (17, ⟨⟨[(7, .ptr 10 []), (9, .ptr 12 []), (12, .ptr 17 []), (15, .ptr 22 []), (124, .hole .i), (125, .hole .i)], [(17, (.st .rekey), .agv  .rekey (.cons (.hole .i) (.cons (.slf 13) (.cons (.slf 14) (.cons (.slf 15) (.nil))))))], [(13, .unit, (.st .seat))]⟩, [(.exit 2, ⟨[(7, .ptr 10 []), (9, .ptr 12 []), (12, .ptr 17 []), (15, .ptr 22 [])], [(17, (.st .rekey), .agv  .rekey (.cons (.hole .i) (.cons (.slf 13) (.cons (.slf 14) (.cons (.slf 15) (.nil))))))], [(13, .unit, (.st .seat))]⟩)], 30, [0, 1, 4, 5, 8, 9, 10, 11, 12, 14, 15, 16, 18, 19, 20, 21, 22]⟩), (22, ⟨⟨[(7, .ptr 10 []), (9, .ptr 12 []), (12, .ptr 17 []), (15, .ptr 22 []), (136, .hole .i), (137, .hole .i)], [(17, (.st .rekey), .agv  .rekey (.cons (.hole .i) (.cons (.slf 13) (.cons (.slf 14) (.cons (.slf 15) (.nil))))))], [(14, .unit, (.st .seat))]⟩, [(.exit 4, ⟨[(7, .ptr 10 []), (9, .ptr 12 []), (12, .ptr 17 []), (15, .ptr 22 [])], [(17, (.st .rekey), .agv  .rekey (.cons (.hole .i) (.cons (.slf 13) (.cons (.slf 14) (.cons (.slf 15) (.nil))))))], [(14, .unit, (.st .seat))]⟩)], 30, [0, 1, 4, 5, 8, 9, 10, 11, 12, 13, 15, 16, 18, 19, 20, 21, 22]⟩), (30, ⟨⟨[(7, .ptr 10 []), (9, .ptr 12 []), (12, .ptr 17 []), (15, .ptr 22 []), (166, .hole .i), (167, .hole .i)], [(10, (.st .batch), .agv  .batch (.cons (.ssl 5) (.cons (.ssl 9) (.nil))))], [(5, .unit, .i)]⟩, [(.exit 6, ⟨[(7, .ptr 10 []), (9, .ptr 12 []), (12, .ptr 17 []), (15, .ptr 22 [])], [(10, (.st .batch), .agv  .batch (.cons (.ssl 5) (.cons (.ssl 9) (.nil))))], [(5, .unit, .i)]⟩)], 30, [0, 1, 4, 8, 9, 11, 12, 16, 17, 18, 19, 20, 21, 22, 113, 114, 115, 116, 117, 118]⟩), (35, ⟨⟨[(7, .ptr 10 []), (9, .ptr 12 []), (12, .ptr 17 []), (15, .ptr 22 []), (177, .hole .i), (178, .hole .i)], [(10, (.st .batch), .agv  .batch (.cons (.ssl 5) (.cons (.ssl 9) (.nil))))], [(9, .unit, .i)]⟩, [(.exit 8, ⟨[(9, .ptr 12 []), (12, .ptr 17 []), (15, .ptr 22 [])], [(10, (.st .batch), .agv  .batch (.cons (.ssl 5) (.cons (.ssl 9) (.nil))))], [(9, .unit, .i)]⟩)], 30, [0, 1, 4, 5, 8, 11, 12, 16, 17, 18, 19, 20, 21, 22, 113, 114, 115, 116, 117, 118]⟩)]
noncomputable def Ls_law12_PlanMemory : List (Nat × List (Nat × LD)) := []
noncomputable def B_law12_PlanMemory : Bodies := []
theorem run_law12_PlanMemory (x : denL [(.st .tree), (.st .batch)]) : runF [(12, c_law12_lives), (29, c_ref12_Next), (16, c_plan_Next), (30, c_ref08_Same), (31, c_ref12_Same)] [16] L_law12_PlanMemory Ls_law12_PlanMemory B_law12_PlanMemory Tryd.f10 [(.st .tree), (.st .batch)] [.bool] x = g_law12_PlanMemory x := by kernel_rfl
theorem ok_law12_PlanMemory : ConOK Tryd.prog 10 c_law12_PlanMemory := con_okF (FConsOK.cons rfl ok_law12_lives (FConsOK.cons rfl ok_ref12_Next (FConsOK.fcons rfl fok_plan_Next (FConsOK.cons rfl ok_ref08_Same (FConsOK.cons rfl ok_ref12_Same (FConsOK.nil)))))) L_law12_PlanMemory Ls_law12_PlanMemory (B := B_law12_PlanMemory) (BodiesOK.nil) Tryd.func10 rfl fun x y hf h => (run_law12_PlanMemory x).trans (eq_law12_PlanMemory x y hf h)
end Go.Proofs.YtplmbkgjaobhgaaDoor
end

section
namespace Go.Co.N
open Go Go.Co

theorem fr_batch {b : Batch} (h : Fr (.st .batch) b) : List.length b.Leaves * 8 ≤ 140737488351232 ∧ List.length b.Joins * 8 ≤ 140737488351232 := by
  have h := Fr.st.1 h
  obtain ⟨h1, h2⟩ := Fr.prod.1 h
  obtain ⟨h2, _⟩ := Fr.prod.1 h2
  exact ⟨Fr.list.1 h1, Fr.list.1 h2⟩
theorem fr_law12_PlanMemory (x : denL [.st .tree, .st .batch]) (h : FrL [.st .tree, .st .batch] x) : c_law12_PlanMemory.fn x = some (true, ()) := by
  obtain ⟨t, b, _⟩ := x
  obtain ⟨h1, h2⟩ := fr_batch (b := b) h.2.1
  show guardK (decide (List.length b.Leaves * 8 ≤ 140737488351232) && decide (List.length b.Joins * 8 ≤ 140737488351232)) (some (true, ())) = _
  rw [decide_eq_true h1, decide_eq_true h2]; rfl
end Go.Co.N
end
