/-
  How many slots a word of 64 has: by bytes.
  Sets, batches, plans: the small functions answer what they are to answer.
  Batches that fit: the program's function answers what the reference's does.
  Moves: the program's function answers what the reference's does.
  Plans: one step, its message, what it costs.
  Plans: the message's items.
  What a step's message costs.
  The names that a step gives: from the old Fresh on, each once.
  Who gets its new keys: what the law's helpers are to answer.
  What each function computes, printed by a program of my own (wip/tool) out of its run.
  Who stays and who joins gets all of its new keys.
  The law's helpers answer so; the law on who gets its new keys.
  A step's keys: which are new, which are advanced ones; what can be derived of keys and boxes.
  Who left derives none of the new keys; who joins derives none of the old ones.
  What the last functions of plans are to answer.
  What each function computes, printed by a program of my own (wip/tool) out of its run.
  Plans: when a batch is refused; the nodes above seats.
  Of which batch a tree came: the batch that two trees tell leads from the one to the other.
  slices.SortFunc over a row: what the program's own sort makes of it.
  What the functions of rows of trees are to answer.
  The program's sorts: slices.SortFunc over entries and over reveals, and what their comparing functions answer.
  The seat's types; what a contract is made from.
  Loops gone through round by round.
  Ranges over maps: whichever order the entries come in.
  The names that begin in a tree, gathered from a map in whatever order and sorted.
  What each function computes, printed by a program of my own (wip/tool) out of its run.
  Rows of trees: what plays, tells, asks compute.
  No conditions. Own text, for the claims about coterie.
-/
import Derived.Shelf.SlSortCmp.NoneTotal
import Derived.Test.YtghlolinkmlkeaaGreatDoorProg
import Derived.Shelf.SlicesG.Cmp
import Derived.WalkKit
import Derived.KernelRfl
import Derived.Maps.RangeRun
import Derived.Test.YtghlolinkmlkeaaGreatDoorPartD

section
namespace Go.Co.N
open Go Go.Co

/-- The same byte k times. -/
def rep (c : Nat) : Nat → Nat
  | 0 => 0
  | k + 1 => c + 256 * rep c k
/-- A function on each byte. -/
def mapB (g : Nat → Nat) : Nat → Nat → Nat
  | 0, _ => 0
  | k + 1, x => g (x % 256) + 256 * mapB g k (x / 256)
theorem and_split (x c r : Nat) (hc : c < 256) : x &&& (c + 256 * r) = ((x % 256) &&& c) + 256 * ((x / 256) &&& r) := by
  have h1 := @Nat.and_mod_two_pow x (c + 256 * r) 8
  have h2 := @Nat.and_div_two_pow x (c + 256 * r) 8
  have e1 : (c + 256 * r) % 2 ^ 8 = c := by omega
  have e2 : (c + 256 * r) / 2 ^ 8 = r := by omega
  rw [e1] at h1; rw [e2] at h2
  have e3 : x % 2 ^ 8 = x % 256 := by omega
  have e4 : x / 2 ^ 8 = x / 256 := by omega
  rw [e3] at h1; rw [e4] at h2
  omega
theorem low85 : ∀ z, z < 256 → z &&& 85 = (z % 128) &&& 85 := by decide +kernel
theorem low51 : ∀ z, z < 256 → z &&& 51 = (z % 64) &&& 51 := by decide +kernel
def g1 (b : Nat) : Nat := ((b / 2) &&& 85) + (b &&& 85)
def g2 (b : Nat) : Nat := ((b / 4) &&& 51) + (b &&& 51)
theorem step1 : ∀ k x, ((x / 2) &&& rep 85 k) + (x &&& rep 85 k) = mapB g1 k x
  | 0, x => by simp [rep, mapB]
  | k + 1, x => by
    have ih := step1 k (x / 256)
    simp only [rep, mapB]
    rw [and_split (x / 2) 85 _ (by omega), and_split x 85 _ (by omega), low85 (x / 2 % 256) (by omega), ← ih]
    have e1 : x / 2 % 256 % 128 = x % 256 / 2 := by omega
    have e2 : x / 2 / 256 = x / 256 / 2 := by omega
    rw [e1, e2]
    unfold g1
    omega
theorem step2 : ∀ k x, ((x / 4) &&& rep 51 k) + (x &&& rep 51 k) = mapB g2 k x
  | 0, x => by simp [rep, mapB]
  | k + 1, x => by
    have ih := step2 k (x / 256)
    simp only [rep, mapB]
    rw [and_split (x / 4) 51 _ (by omega), and_split x 51 _ (by omega), low51 (x / 4 % 256) (by omega), ← ih]
    have e1 : x / 4 % 256 % 64 = x % 256 / 4 := by omega
    have e2 : x / 4 / 256 = x / 256 / 4 := by omega
    rw [e1, e2]
    unfold g2
    omega
theorem mapB_comp {f g : Nat → Nat} (hf : ∀ b, b < 256 → f b < 256) : ∀ k x, mapB g k (mapB f k x) = mapB (fun b => g (f b)) k x
  | 0, _ => rfl
  | k + 1, x => by
    simp only [mapB]
    have h := hf (x % 256) (by omega)
    rw [show (f (x % 256) + 256 * mapB f k (x / 256)) % 256 = f (x % 256) by omega, show (f (x % 256) + 256 * mapB f k (x / 256)) / 256 = mapB f k (x / 256) by omega, mapB_comp hf k]
/-- Small halves. -/
def halves (f : Nat → Nat) : Prop := ∀ b, b < 256 → f b % 16 ≤ 4 ∧ f b / 16 ≤ 4
theorem mapB_low {f : Nat → Nat} (hf : halves f) : ∀ k x, mapB f k x % 16 ≤ 4
  | 0, _ => by simp [mapB]
  | k + 1, x => by
    have := (hf (x % 256) (by omega)).1
    simp only [mapB]; omega
def g3 (b : Nat) : Nat := (b / 16 + b) % 16
theorem step3 {f : Nat → Nat} (hf : halves f) : ∀ k x, (mapB f k x / 16 + mapB f k x) &&& rep 15 k = mapB (fun b => g3 (f b)) k x
  | 0, x => by simp [rep, mapB]
  | k + 1, x => by
    have ih := step3 hf k (x / 256)
    obtain ⟨h1, h2⟩ := hf (x % 256) (by omega)
    have h3 := mapB_low hf k (x / 256)
    simp only [rep, mapB]
    rw [and_split _ 15 _ (by omega), ← ih]
    generalize f (x % 256) = A at *
    generalize mapB f k (x / 256) = Y at *
    have e1 : ((A + 256 * Y) / 16 + (A + 256 * Y)) % 256 = A / 16 + 16 * (Y % 16) + A := by omega
    have e2 : ((A + 256 * Y) / 16 + (A + 256 * Y)) / 256 = Y / 16 + Y := by omega
    rw [e1, e2, show (15 : Nat) = 2 ^ 4 - 1 from rfl, Nat.and_two_pow_sub_one_eq_mod]
    unfold g3
    omega
theorem g1_lt : ∀ b, b < 256 → g1 b < 256 := by decide +kernel
theorem g2_halves : ∀ b, b < 256 → g2 (g1 b) % 16 ≤ 4 ∧ g2 (g1 b) / 16 ≤ 4 := by decide +kernel
theorem g3_bits : ∀ b, b < 256 → g3 (g2 (g1 b)) = bits 8 b := by decide +kernel
theorem mapB_congr {f g : Nat → Nat} (h : ∀ b, b < 256 → f b = g b) : ∀ k x, mapB f k x = mapB g k x
  | 0, _ => rfl
  | k + 1, x => by simp only [mapB]; rw [h _ (by omega), mapB_congr h k]
theorem mapB_bits : ∀ k x, mapB (bits 8) (k + 1) x = bits 8 x + 256 * mapB (bits 8) k (x / 256)
  | k, x => by
    simp only [mapB]
    have := bits_mod 8 x
    rw [show (2 : Nat) ^ 8 = 256 from rfl] at this
    rw [this]
theorem mapB_lt {f : Nat → Nat} (hf : ∀ b, b < 256 → f b < 256) : ∀ k x, mapB f k x < 256 ^ k
  | 0, _ => by simp [mapB]
  | k + 1, x => by
    have h1 := hf (x % 256) (by omega)
    have h2 := mapB_lt hf k (x / 256)
    simp only [mapB, Nat.pow_succ]
    omega
theorem dig {y c r : Nat} (h : y = c + 256 * r) (hc : c < 256) : y / 256 = r := by omega
theorem sumD {R0 R1 R2 c0 c1 : Nat} (h0 : R0 = c0 + 256 * R1) (h1 : R1 = c1 + 256 * R2) : R0 + R1 = (c0 + c1) + 256 * (R1 + R2) := by omega
theorem bnd {R c r k K : Nat} (h : R = c + 256 * r) (hc : c ≤ 8) (hr : r ≤ k) (hK : 8 + 256 * k = K) : R ≤ K := by omega
theorem dig2 {y c d r : Nat} (h : y = c + 256 * (d + 256 * r)) (hc : c < 256) (hd : d < 256) : y / 65536 = r := by
  rw [show 65536 = 256 * 256 from rfl, ← Nat.div_div_eq_div_mul, dig h hc, dig rfl hd]
theorem dig4 {y a b c d r : Nat} (h : y = a + 256 * (b + 256 * (c + 256 * (d + 256 * r)))) (ha : a < 256) (hb : b < 256) (hc : c < 256) (hd : d < 256) : y / 4294967296 = r := by
  rw [show 4294967296 = 65536 * 65536 from rfl, ← Nat.div_div_eq_div_mul, dig2 h ha hb, dig2 rfl hc hd]
theorem sumS {A B C a b c : Nat} (hA : A = a + 256 * B) (hC : C = b + 256 * c) : A + C = (a + b) + 256 * (B + c) := by omega
theorem lastD {S0 S2 S4 S6 S1 S3 S5 S7 a b c d : Nat} (h0 : S0 = a + 256 * S1) (h2 : S2 = b + 256 * S3) (h4 : S4 = c + 256 * S5) (h6 : S6 = d + 256 * S7) (h : a + b + c + d < 128) : (S0 + S2 + (S4 + S6)) % 128 = a + b + c + d := by omega
theorem four {a b c d : Nat} (h1 : a ≤ 8) (h2 : b ≤ 8) (h3 : c ≤ 8) (h4 : d ≤ 8) : a + b + (c + d) < 256 := by omega
theorem eight {a b c d e f g h : Nat} (h1 : a ≤ 8) (h2 : b ≤ 8) (h3 : c ≤ 8) (h4 : d ≤ 8) (h5 : e ≤ 8) (h6 : f ≤ 8) (h7 : g ≤ 8) (h8 : h ≤ 8) : a + b + (c + d) + (e + f) + (g + h) < 128 := by omega
theorem two8 {a b : Nat} (h1 : a ≤ 8) (h2 : b ≤ 8) : a + b < 256 := by omega
theorem fold8d {c0 c1 c2 c3 c4 c5 c6 c7 R0 R1 R2 R3 R4 R5 R6 R7 : Nat} (h7 : R7 = c7) (h6 : R6 = c6 + 256 * R7) (h5 : R5 = c5 + 256 * R6) (h4 : R4 = c4 + 256 * R5) (h3 : R3 = c3 + 256 * R4) (h2 : R2 = c2 + 256 * R3) (h1 : R1 = c1 + 256 * R2) (h0 : R0 = c0 + 256 * R1)
    (b0 : c0 ≤ 8) (b1 : c1 ≤ 8) (b2 : c2 ≤ 8) (b3 : c3 ≤ 8) (b4 : c4 ≤ 8) (b5 : c5 ≤ 8) (b6 : c6 ≤ 8) (b7 : c7 ≤ 8) :
    R0 + R0 / 256 < 9223372036854775808 ∧ (R0 + R0 / 256) + (R0 + R0 / 256) / 65536 < 9223372036854775808 ∧ ((R0 + R0 / 256) + (R0 + R0 / 256) / 65536) + ((R0 + R0 / 256) + (R0 + R0 / 256) / 65536) / 4294967296 < 9223372036854775808 ∧
    (((R0 + R0 / 256) + (R0 + R0 / 256) / 65536) + ((R0 + R0 / 256) + (R0 + R0 / 256) / 65536) / 4294967296) % 128 = (c0 + c1) + (c2 + c3) + (c4 + c5) + (c6 + c7) := by
  have l7 : R7 ≤ 8 := h7 ▸ b7
  have l6 : R6 ≤ 2056 := bnd h6 b6 l7 rfl
  have l5 : R5 ≤ 526344 := bnd h5 b5 l6 rfl
  have l4 : R4 ≤ 134744072 := bnd h4 b4 l5 rfl
  have l3 : R3 ≤ 34494482440 := bnd h3 b3 l4 rfl
  have l2 : R2 ≤ 8830587504648 := bnd h2 b2 l3 rfl
  have l1 : R1 ≤ 2260630401189896 := bnd h1 b1 l2 rfl
  have l0 : R0 ≤ 578721382704613384 := bnd h0 b0 l1 rfl
  rw [dig h0 (Nat.lt_of_le_of_lt b0 (by decide))]
  have s0 := sumD h0 h1
  have s1 := sumD h1 h2
  have s2 := sumD h2 h3
  have s3 := sumD h3 h4
  have s4 := sumD h4 h5
  have s5 := sumD h5 h6
  have s6 : R6 + R7 = (c6 + c7) + 256 * R7 := by rw [h6, ← h7]; omega
  have m0 : R0 + R1 ≤ 580982013105803280 := Nat.add_le_add l0 l1
  have m1 : R1 + R2 ≤ 2269460988694544 := Nat.add_le_add l1 l2
  have m2 : R2 + R3 ≤ 8865081987088 := Nat.add_le_add l2 l3
  have m3 : R3 + R4 ≤ 34629226512 := Nat.add_le_add l3 l4
  have m4 : R4 + R5 ≤ 135270416 := Nat.add_le_add l4 l5
  have m5 : R5 + R6 ≤ 528400 := Nat.add_le_add l5 l6
  have m6 : R6 + R7 ≤ 2064 := Nat.add_le_add l6 l7
  clear h0 h1 h2 h3 h4 h5 h6 h7
  generalize R0 + R1 = S0 at *
  generalize R1 + R2 = S1 at *
  generalize R2 + R3 = S2 at *
  generalize R3 + R4 = S3 at *
  generalize R4 + R5 = S4 at *
  generalize R5 + R6 = S5 at *
  generalize R6 + R7 = S6 at *
  clear l0 l1 l2 l3 l4 l5 l6
  have s01 := s0; rw [s1] at s01
  rw [dig2 s01 (two8 b0 b1) (two8 b1 b2)]
  have u0 := sumS s0 s2
  have u1 := sumS s1 s3
  have u2 := sumS s2 s4
  have u3 := sumS s3 s5
  have e := u0; rw [u1, u2, u3] at e
  rw [dig4 e (four b0 b1 b2 b3) (four b1 b2 b3 b4) (four b2 b3 b4 b5) (four b3 b4 b5 b6)]
  refine ⟨Nat.lt_of_le_of_lt m0 (by decide), Nat.lt_of_le_of_lt (Nat.add_le_add m0 m2) (by decide), Nat.lt_of_le_of_lt (Nat.add_le_add (Nat.add_le_add m0 m2) (Nat.add_le_add m4 m6)) (by decide), ?_⟩
  exact lastD s0 s2 s4 s6 (eight b0 b1 b2 b3 b4 b5 b6 b7)
theorem fold8c {y s c0 c1 c2 c3 c4 c5 c6 c7 : Nat} (hs : s = c0 + (c1 + (c2 + (c3 + (c4 + (c5 + (c6 + c7))))))) (hy : y = c0 + 256 * (c1 + 256 * (c2 + 256 * (c3 + 256 * (c4 + 256 * (c5 + 256 * (c6 + 256 * c7)))))))
    (b0 : c0 ≤ 8) (b1 : c1 ≤ 8) (b2 : c2 ≤ 8) (b3 : c3 ≤ 8) (b4 : c4 ≤ 8) (b5 : c5 ≤ 8) (b6 : c6 ≤ 8) (b7 : c7 ≤ 8) :
    y + y / 256 < 9223372036854775808 ∧ (y + y / 256) + (y + y / 256) / 65536 < 9223372036854775808 ∧ ((y + y / 256) + (y + y / 256) / 65536) + ((y + y / 256) + (y + y / 256) / 65536) / 4294967296 < 9223372036854775808 ∧
    (((y + y / 256) + (y + y / 256) / 65536) + ((y + y / 256) + (y + y / 256) / 65536) / 4294967296) % 128 = s := by
  subst hy
  rw [hs, show c0 + (c1 + (c2 + (c3 + (c4 + (c5 + (c6 + c7)))))) = (c0 + c1) + (c2 + c3) + (c4 + c5) + (c6 + c7) by omega]
  exact fold8d rfl rfl rfl rfl rfl rfl rfl rfl b0 b1 b2 b3 b4 b5 b6 b7
/-- All bytes of a word counted into its lowest. -/
theorem fold8 (n : Nat) : let y := mapB (bits 8) 8 n
    y + y / 256 < 9223372036854775808 ∧ (y + y / 256) + (y + y / 256) / 65536 < 9223372036854775808 ∧ ((y + y / 256) + (y + y / 256) / 65536) + ((y + y / 256) + (y + y / 256) / 65536) / 4294967296 < 9223372036854775808 ∧
    (((y + y / 256) + (y + y / 256) / 65536) + ((y + y / 256) + (y + y / 256) / 65536) / 4294967296) % 128 = bits 64 n := by
  have hs : bits 64 n = bits 8 n + (bits 8 (n / 256) + (bits 8 (n / 256 / 256) + (bits 8 (n / 256 / 256 / 256) + (bits 8 (n / 256 / 256 / 256 / 256) + (bits 8 (n / 256 / 256 / 256 / 256 / 256) + (bits 8 (n / 256 / 256 / 256 / 256 / 256 / 256) + bits 8 (n / 256 / 256 / 256 / 256 / 256 / 256 / 256))))))) := by
    rw [show 64 = 8 + (8 + (8 + (8 + (8 + (8 + (8 + 8)))))) from rfl, bits_add, bits_add, bits_add, bits_add, bits_add, bits_add, bits_add]
  have b0 := bits_le 8 n
  have b1 := bits_le 8 (n / 256)
  have b2 := bits_le 8 (n / 256 / 256)
  have b3 := bits_le 8 (n / 256 / 256 / 256)
  have b4 := bits_le 8 (n / 256 / 256 / 256 / 256)
  have b5 := bits_le 8 (n / 256 / 256 / 256 / 256 / 256)
  have b6 := bits_le 8 (n / 256 / 256 / 256 / 256 / 256 / 256)
  have b7 := bits_le 8 (n / 256 / 256 / 256 / 256 / 256 / 256 / 256)
  have hy : mapB (bits 8) 8 n = bits 8 n + 256 * (bits 8 (n / 256) + 256 * (bits 8 (n / 256 / 256) + 256 * (bits 8 (n / 256 / 256 / 256) + 256 * (bits 8 (n / 256 / 256 / 256 / 256) + 256 * (bits 8 (n / 256 / 256 / 256 / 256 / 256) + 256 * (bits 8 (n / 256 / 256 / 256 / 256 / 256 / 256) + 256 * (bits 8 (n / 256 / 256 / 256 / 256 / 256 / 256 / 256)))))))) := by
    rw [mapB_bits, mapB_bits, mapB_bits, mapB_bits, mapB_bits, mapB_bits, mapB_bits, mapB_bits]
    simp [mapB]
  generalize bits 8 n = c0 at *
  generalize bits 8 (n / 256) = c1 at *
  generalize bits 8 (n / 256 / 256) = c2 at *
  generalize bits 8 (n / 256 / 256 / 256) = c3 at *
  generalize bits 8 (n / 256 / 256 / 256 / 256) = c4 at *
  generalize bits 8 (n / 256 / 256 / 256 / 256 / 256) = c5 at *
  generalize bits 8 (n / 256 / 256 / 256 / 256 / 256 / 256) = c6 at *
  generalize bits 8 (n / 256 / 256 / 256 / 256 / 256 / 256 / 256) = c7 at *
  exact fold8c hs hy b0 b1 b2 b3 b4 b5 b6 b7
theorem shr_n64 (n v : Nat) (hv : v < 64) : shrI .u64 (n : Int) (v : Int) = ((n / 2 ^ v : Nat) : Int) := by
  unfold shrI
  have : min (v : Int).toNat IntKind.u64.bits = v := by simp [IntKind.bits]; omega
  rw [this, Int.fdiv_eq_ediv_of_nonneg _ (Int.pow_nonneg (by omega))]
  simp
theorem bw_and_i64 (n : Nat) (hn : n < 9223372036854775808) : bw .and .i64 (n : Int) 127 = ((n % 128 : Nat) : Int) := by
  have e1 : BitVec.ofInt IntKind.i64.bits (n : Int) = BitVec.ofNat 64 n := by simp [IntKind.bits]
  have e2 : BitVec.ofInt IntKind.i64.bits (127 : Int) = BitVec.ofNat 64 127 := rfl
  have e3 : (BitVec.ofNat 64 n &&& BitVec.ofNat 64 127).toNat = n % 128 := by
    have h := Nat.and_two_pow_sub_one_eq_mod n 7
    rw [BitVec.toNat_and, BitVec.toNat_ofNat, BitVec.toNat_ofNat, Nat.mod_eq_of_lt (show n < 2 ^ 64 by omega)]
    exact h
  unfold bw
  simp only [e1, e2]
  show IntKind.i64.wrap (((BitVec.ofNat 64 n &&& BitVec.ofNat 64 127).toNat : Nat) : Int) = _
  rw [e3, i64_in _ (by omega)]
theorem bits_cntP (n : Nat) : ∀ d, bits d n = cntP (bitI (n : Int)) d
  | 0 => rfl
  | d + 1 => by
    rw [bits_add d 1, bits_cntP n d]
    simp only [cntP, bits]
    have : bitI (n : Int) d = decide (n / 2 ^ d % 2 = 1) := by
      unfold bitI
      rw [show ((n : Int) / 2 ^ d) = ((n / 2 ^ d : Nat) : Int) by simp]
      congr 1
      simp only [eq_iff_iff]; omega
    rw [this]
    by_cases h : n / 2 ^ d % 2 = 1
    · simp [h]
    · have h : n / 2 ^ d % 2 = 0 := by omega
      simp [h]
theorem mask85 : (6148914691236517205 : Int) = ((rep 85 8 : Nat) : Int) := by decide
theorem mask51 : (3689348814741910323 : Int) = ((rep 51 8 : Nat) : Int) := by decide
theorem mask15 : (1085102592571150095 : Int) = ((rep 15 8 : Nat) : Int) := by decide
theorem swar1 {n : Nat} (hn : n < 18446744073709551616) : IntKind.wrap IntKind.u64 (bw BinOp.and IntKind.u64 (shrI IntKind.u64 (n : Int) 1) 6148914691236517205 + bw BinOp.and IntKind.u64 (n : Int) 6148914691236517205) = ((mapB g1 8 n : Nat) : Int) := by
  have hr : rep 85 8 < 18446744073709551616 := by decide
  have hs : shrI IntKind.u64 (n : Int) 1 = ((n / 2 : Nat) : Int) := shr_n64 n 1 (by omega)
  have hl := mapB_lt g1_lt 8 n
  rw [mask85, hs, bw_and64 _ _ (by omega) hr, bw_and64 _ _ hn hr, ← Int.natCast_add, step1 8 n, Go.IntWalk.u64_in _ ⟨by omega, by omega⟩]
theorem swar2 {n : Nat} (hn : n < 18446744073709551616) (hl : mapB g2 8 n < 18446744073709551616) : IntKind.wrap IntKind.u64 (bw BinOp.and IntKind.u64 (shrI IntKind.u64 (n : Int) 2) 3689348814741910323 + bw BinOp.and IntKind.u64 (n : Int) 3689348814741910323) = ((mapB g2 8 n : Nat) : Int) := by
  have hr : rep 51 8 < 18446744073709551616 := by decide
  have hs : shrI IntKind.u64 (n : Int) 2 = ((n / 4 : Nat) : Int) := shr_n64 n 2 (by omega)
  rw [mask51, hs, bw_and64 _ _ (by omega) hr, bw_and64 _ _ hn hr, ← Int.natCast_add, step2 8 n, Go.IntWalk.u64_in _ ⟨by omega, by omega⟩]
theorem swar3 {n : Nat} {f : Nat → Nat} (hf : halves f) (hs : mapB f 8 n < 4919131752989213765) : bw BinOp.and IntKind.u64 (IntKind.wrap IntKind.u64 (shrI IntKind.u64 ((mapB f 8 n : Nat) : Int) 4 + ((mapB f 8 n : Nat) : Int))) 1085102592571150095 = ((mapB (fun b => g3 (f b)) 8 n : Nat) : Int) := by
  have hr : rep 15 8 < 18446744073709551616 := by decide
  have h4 : shrI IntKind.u64 ((mapB f 8 n : Nat) : Int) 4 = ((mapB f 8 n / 16 : Nat) : Int) := shr_n64 _ 4 (by omega)
  rw [mask15, h4, ← Int.natCast_add, Go.IntWalk.u64_in _ ⟨by omega, by omega⟩, bw_and64 _ _ (by omega) hr, step3 hf 8 n]
theorem mapB_le {f : Nat → Nat} {c : Nat} (hf : ∀ b, b < 256 → f b ≤ c) : ∀ k x, mapB f k x ≤ rep c k
  | 0, _ => by simp [mapB, rep]
  | k + 1, x => by
    have h1 := hf (x % 256) (by omega)
    have h2 := mapB_le hf k (x / 256)
    simp only [mapB, rep]
    omega
theorem g2_68 : ∀ b, b < 256 → g2 (g1 b) ≤ 68 := by decide +kernel
theorem eq_bits_OnesCount64 : Eqs c_bits_OnesCount64 g_bits_OnesCount64 := Eqs.tot fun (x, _) hf => by
  change Int at x
  have hx : 0 ≤ x ∧ x ≤ 18446744073709551615 := fine_u64.1 hf.1
  obtain ⟨n, rfl⟩ := Int.eq_ofNat_of_zero_le hx.1
  have hn : n < 18446744073709551616 := by omega
  show g_bits_OnesCount64 ((n : Int), ()) = some (cntW (n : Int), ())
  have hy := mapB_le g2_68 8 n
  have hy2 : rep 68 8 = 4919131752989213764 := by decide
  have hl1 : mapB g1 8 n < 18446744073709551616 := mapB_lt g1_lt 8 n
  have hc2 : mapB g2 8 (mapB g1 8 n) = mapB (fun b => g2 (g1 b)) 8 n := mapB_comp g1_lt 8 n
  have h3 := swar3 (f := fun b => g2 (g1 b)) g2_halves (n := n) (by omega)
  have hb : mapB (fun b => g3 (g2 (g1 b))) 8 n = mapB (bits 8) 8 n := mapB_congr g3_bits 8 n
  obtain ⟨f1, f2, f3, f4⟩ := fold8 n
  have f0 : mapB (bits 8) 8 n < 9223372036854775808 := by omega
  rw [g_bits_OnesCount64]
  rw [swar1 hn, swar2 hl1 (by rw [hc2]; omega), hc2]
  have hw : IntKind.wrap IntKind.u64 ((mapB (fun b => g2 (g1 b)) 8 n : Nat) : Int) = ((mapB (fun b => g2 (g1 b)) 8 n : Nat) : Int) := Go.IntWalk.u64_in _ ⟨by omega, by omega⟩
  rw [h3, hb]
  generalize mapB (bits 8) 8 n = Y at *
  have e8 : shrI IntKind.u64 (Y : Int) 8 = ((Y / 256 : Nat) : Int) := shr_n64 Y 8 (by omega)
  have w8 : IntKind.wrap IntKind.u64 ((Y : Int) + shrI IntKind.u64 (Y : Int) 8) = ((Y + Y / 256 : Nat) : Int) := by rw [e8, ← Int.natCast_add, Go.IntWalk.u64_in _ ⟨by omega, by omega⟩]
  rw [w8]
  generalize Y + Y / 256 = Z at *
  have e16 : shrI IntKind.u64 (Z : Int) 16 = ((Z / 65536 : Nat) : Int) := shr_n64 Z 16 (by omega)
  have w16 : IntKind.wrap IntKind.u64 ((Z : Int) + shrI IntKind.u64 (Z : Int) 16) = ((Z + Z / 65536 : Nat) : Int) := by rw [e16, ← Int.natCast_add, Go.IntWalk.u64_in _ ⟨by omega, by omega⟩]
  rw [w16]
  generalize Z + Z / 65536 = U at *
  have e32 : shrI IntKind.u64 (U : Int) 32 = ((U / 4294967296 : Nat) : Int) := shr_n64 U 32 (by omega)
  have w32 : IntKind.wrap IntKind.u64 ((U : Int) + shrI IntKind.u64 (U : Int) 32) = ((U + U / 4294967296 : Nat) : Int) := by rw [e32, ← Int.natCast_add, Go.IntWalk.u64_in _ ⟨by omega, by omega⟩]
  rw [w32, i64_in _ (by omega), bw_and_i64 _ f3, f4, bits_cntP n 64]
  unfold cntW
  rw [filter_cnt]
end Go.Co.N
end

section
namespace Go.Co.N
open Go Go.Co

theorem guardK_some {R : Type} {c : Bool} {r : Option R} {y : R} (h : guardK c r = some y) : c = true ∧ r = some y := by
  unfold guardK at h
  cases c with
  | true => exact ⟨rfl, h⟩
  | false => cases h
theorem eq_shape_Child : Eqs c_shape_Child g_shape_Child := Eqs.tot fun (v, i, _) _ => by
  change Int at v i
  show g_shape_Child (v, i, ()) = some (child v i, ())
  simp only [g_shape_Child, child]
  by_cases h1 : v < 0
  · have : ¬ (0 ≤ v ∧ v < 21 ∧ 0 ≤ i ∧ i < 4) := by omega
    simp [h1, this]
  by_cases h2 : 21 ≤ v
  · have : ¬ (0 ≤ v ∧ v < 21 ∧ 0 ≤ i ∧ i < 4) := by omega
    simp [h1, h2, this]
  by_cases h3 : i < 0
  · have : ¬ (0 ≤ v ∧ v < 21 ∧ 0 ≤ i ∧ i < 4) := by omega
    simp [h1, h2, h3, this]
  by_cases h4 : 4 ≤ i
  · have : ¬ (0 ≤ v ∧ v < 21 ∧ 0 ≤ i ∧ i < 4) := by omega
    simp [h1, h2, h3, h4, this]
  have hs : shlI IntKind.i64 v 2 = v * 4 := by
    unfold shlI
    have : min (2 : Int).toNat IntKind.i64.bits = 2 := by decide
    rw [this, i64_in _ (by omega)]
    omega
  have hc : 0 ≤ v ∧ v < 21 ∧ 0 ≤ i ∧ i < 4 := by omega
  simp only [h1, h2, h3, h4, decide_false, cond_false, hs, if_pos hc]
  rw [i64_in (v * 4 + 1) (by omega), i64_in (v * 4 + 1 + i) (by omega), show v * 4 + 1 + i = 4 * v + 1 + i by omega]
theorem eq_seats_Count : Eqs c_seats_Count g_seats_Count := Eqs.tot fun _ _ => rfl
theorem eq_seats_bit : Eqs c_seats_bit g_seats_bit := Eqs.tot fun (s, _) _ => by
  change Int at s
  show g_seats_bit (s, ()) = some (bitOf s, ())
  simp only [g_seats_bit, bitOf]
  by_cases h1 : s < 0
  · have : ¬ (0 ≤ s ∧ s < 64) := by omega
    simp [h1, this]
  by_cases h2 : 64 ≤ s
  · have : ¬ (0 ≤ s ∧ s < 64) := by omega
    simp [h1, h2, this]
  obtain ⟨n, rfl⟩ := Int.eq_ofNat_of_zero_le (show 0 ≤ s by omega)
  have hc : 0 ≤ (n : Int) ∧ (n : Int) < 64 := by omega
  simp only [h1, h2, decide_false, cond_false, if_pos hc, shl_one64 n (by omega), Int.toNat_natCast]

/-! ### Lists alike -/
/-! ### Items opened -/
/-! ### Plans' small ones -/
theorem eq_plan_nodeKey : Eqs c_plan_nodeKey g_plan_nodeKey := fun (t, v, _) y _ h => by
  change Tree at t
  change Int at v
  obtain ⟨hg, h⟩ := guardK_some h
  have hb : 0 ≤ v ∧ v ≤ 84 := betw_iff.1 hg
  obtain ⟨h0, h1⟩ := hb
  rw [← h]
  show g_plan_nodeKey (t, v, ()) = some (nodeK t v, ())
  simp only [g_plan_nodeKey, nodeK]
  by_cases hs : 0 ≤ slot v
  · have : slot v < 64 := by unfold slot; split <;> omega
    simp [hs, this]
  · have hv : v < 21 := by
      unfold slot at hs
      split at hs <;> omega
    simp [hs, h0, hv]
theorem gone_go (r : Roster) : ∀ (l : List Int) (a : List Co.Seat), foldE (Z := (List Seat × Unit) × Unit × Unit) (fun a w => Sum.inl (a ++ [⟨w, findR r w⟩])) (fun a => ((a, ()), (), ())) l a = ((a ++ goneOf r l, ()), (), ())
  | [], a => by simp [foldE, goneOf]
  | w :: l, a => by
    simp only [foldE]
    rw [gone_go r l]
    simp [goneOf]
theorem eq_plan_leavers : Eqs c_plan_leavers g_plan_leavers := fun (r, l, _) y hf h => by
  change List Int at l
  obtain ⟨hg, h⟩ := guardK_some h
  have hl : l.length ≤ 64 := of_decide_eq_true hg
  rw [← h]
  show g_plan_leavers (r, l, ()) = some (goneOf r l, ())
  simp only [g_plan_leavers]
  have hloop := lfp_list (f := g_plan_leavers_r1) l (fun i (a : List Co.Seat) => (((), a, l, (l.length : Int), (i : Int), ()), (r, ()), ()))
    (fun a w => Sum.inl (a ++ [⟨w, findR r w⟩])) (fun i _ a => a.length = i) (fun a => ((a, ()), (), ()))
    (fun i x rest a _ hi hx ha => by
      refine ⟨fun a' ha' => ?_, ?_⟩
      · simp only [Sum.inl.injEq] at ha'
        subst ha'; simp [ha]
      · have h1 : (i : Int) < (l.length : Int) := by omega
        have h2 : (a.length + 1) * 16 ≤ 140737488355328 := by omega
        simp only [g_plan_leavers_r1, h1, hx, h2, decide_true, cond_true, Int.natCast_nonneg, Bool.and_self, wrap1' hi (by omega)]
        rfl)
    (fun a _ => by simp [g_plan_leavers_r1]) l 0 [] rfl (by omega) rfl
  rw [show lfp g_plan_leavers_r1 (((), [], l, (l.length : Int), 0, ()), (r, ()), ()) = _ from hloop, gone_go]
  simp
theorem eq_roster_names : Eqs c_roster_names g_roster_names := fun (r, b, n, _) y hf h => by
  change Int at b n
  obtain ⟨hg, h⟩ := guardK_some h
  have hn : 0 ≤ n ∧ n ≤ 64 := by simpa using hg
  rw [← h]
  show g_roster_names (r, b, n, ()) = some (namesFree r b n, ())
  simp only [g_roster_names, namesFree]
  by_cases h0 : n = 0
  · simp [h0]
  by_cases h1 : b < 1
  · have : ¬ 1 ≤ b := by omega
    simp [h0, h1, this]
  have h1' : 1 ≤ b := by omega
  rw [i64_in (32768 - n) (by omega)]
  by_cases h2 : 32768 - n < b
  · have : ¬ b ≤ 32768 - n := by omega
    simp [h0, h1, h2, this]
  have h2' : b ≤ 32768 - n := by omega
  simp only [h0, h1, h2, h1', h2', decide_false, decide_true, cond_false, Bool.false_or, Bool.true_and]
  rw [lfp_find' (fun i => (((), (), 64, (i : Int), ()), (r, b, n, ()), ())) 64 (fun i => decide (b ≤ (ent r i).Base) && decide ((ent r i).Base < b + n)) (fun i => Sum.inl (((i : Int), ()), (r, b, n, ()), ())) (.inr ((), (r, b, n, ()), ())) (by rfl)
    (fun i hi hb => by
      have h1 : (i : Int) < 64 := by omega
      have hent : Arr.get r (i : Int) = ent r i := rfl
      simp only [g_roster_names_r1, h1, hent, decide_true, cond_true, Int.natCast_nonneg, Bool.and_self, wrap1 i (by omega), i64_in (b + n) (by omega)]
      cases hq : decide (b ≤ (ent r i).Base) with
      | false => rfl
      | true =>
        have : decide ((ent r i).Base < b + n) = false := by simpa [hq] using hb
        rw [this]; rfl)
    (fun i hi hb => by
      have h1 : (i : Int) < 64 := by omega
      have hent : Arr.get r (i : Int) = ent r i := rfl
      simp only [Bool.and_eq_true] at hb
      simp only [g_roster_names_r1, h1, hent, decide_true, cond_true, Int.natCast_nonneg, Bool.and_self, i64_in (b + n) (by omega), hb.1, hb.2])
    (by simp [g_roster_names_r1])]
  simp only [Option.bind_some]
  cases hx : fstN 64 (fun i => decide (b ≤ (ent r i).Base) && decide ((ent r i).Base < b + n)) 0 with
  | none =>
    have : allN 64 (fun s => !(decide (b ≤ (ent r s).Base) && decide ((ent r s).Base < b + n))) = true := allN_iff.2 fun i hi => by
      have := fstN_none hx i (by omega) (by omega)
      simp only [this, Bool.not_false]
    rw [this]; rfl
  | some i =>
    obtain ⟨_, hi, hp, _⟩ := fstN_some hx
    have : allN 64 (fun s => !(decide (b ≤ (ent r s).Base) && decide ((ent r s).Base < b + n))) = false := by
      cases hq : allN 64 (fun s => !(decide (b ≤ (ent r s).Base) && decide ((ent r s).Base < b + n))) with
      | false => rfl
      | true =>
        have := allN_iff.1 hq i (by omega)
        rw [hp] at this; cases this
    have h0 : 0 ≤ (i : Int) := by omega
    rw [this]; simp [h0]
end Go.Co.N
end

section
namespace Go.Co.N
open Go Go.Co

/-- Who was seen, once. -/
def SeenM (h : List (Int × Int)) (seen : List Int) : Prop := ∀ w, mget h w = if w ∈ seen then some 1 else none
theorem SeenM.nil : SeenM [] [] := fun w => by simp [mget]
def seeM (h : List (Int × Int)) (seen : List Int) (x : Int) : List (Int × Int) := mput h x (bif decide (x ∈ seen) then 2 else 1)
theorem SeenM.see {h : List (Int × Int)} {seen : List Int} {x : Int} (hs : SeenM h seen) (hx : x ∉ seen) : SeenM (seeM h seen x) (x :: seen) := fun w => by
  unfold seeM
  rw [mget_mput]
  simp only [hx, decide_false, cond_false, List.mem_cons]
  by_cases hw : x = w
  · subst hw; simp
  · have hw' : ¬ w = x := fun e => hw e.symm
    simp only [hw, hw', if_false, false_or]
    exact hs w
theorem SeenM.count {h : List (Int × Int)} {seen : List Int} (hs : SeenM h seen) (x : Int) : mput h x (IntKind.wrap IntKind.i64 (Option.getD (mget h x) 0 + 1)) = seeM h seen x := by
  unfold seeM
  rw [hs x]
  by_cases hx : x ∈ seen
  · simp only [hx, if_true, decide_true, cond_true, Option.getD_some]
    rw [i64_in _ (by omega)]; rfl
  · simp only [hx, if_false, decide_false, cond_false, Option.getD_none]
    rw [i64_in _ (by omega)]; rfl
theorem SeenM.twice (h : List (Int × Int)) (seen : List Int) (x : Int) : decide (1 < Option.getD (mget (seeM h seen x) x) 0) = decide (x ∈ seen) := by
  unfold seeM
  rw [mget_mput]
  by_cases hx : x ∈ seen <;> simp [hx]
section
variable {Z : Type} (r : Roster) (leaves : Bool) (fin : List (Int × Int) × List Int → Z) (err : Int → List (Int × Int) → Z)
def seeStep (a : List (Int × Int) × List Int) (x : Int) : (List (Int × Int) × List Int) ⊕ Z :=
  bif decide (personE r a.2 leaves x = 0) then Sum.inl (seeM a.1 a.2 x, x :: a.2) else Sum.inr (err (personE r a.2 leaves x) (seeM a.1 a.2 x))
theorem see_fold : ∀ (l : List Int) (h : List (Int × Int)) (seen : List Int), SeenM h seen → ∃ h', (askL r leaves l seen = 0 → SeenM h' (askSeen l seen)) ∧
    foldE (seeStep r leaves err) fin l (h, seen) = bif decide (askL r leaves l seen = 0) then fin (h', askSeen l seen) else err (askL r leaves l seen) h'
  | [], h, seen, hs => ⟨h, fun _ => by simpa [askSeen] using hs, by simp [foldE, askL, askSeen]⟩
  | w :: l, h, seen, hs => by
    simp only [foldE, askL, seeStep]
    by_cases hp : personE r seen leaves w = 0
    · simp only [hp, decide_true, cond_true]
      obtain ⟨h', h1, h2⟩ := see_fold l (seeM h seen w) (w :: seen) (hs.see (personE_0.1 hp).2.2.1)
      refine ⟨h', fun e => ?_, ?_⟩
      · have := h1 e
        simpa [askSeen] using this
      · rw [h2]; simp [askSeen]
    · refine ⟨seeM h seen w, fun e => ?_, ?_⟩
      · simp only [hp, decide_false, cond_false] at e
      · simp [hp]
end
/-- The program's round. -/
theorem see_round {b : Batch} (r : Roster) (leaves : Bool) (l : List Int) (i : Nat) (x : Int) (h : List (Int × Int)) (seen : List Int) (hi : i < l.length) (hl : l.length ≤ 9223372036854775807) (hx : lat l (i : Int) = x) (hs : SeenM h seen) :
    g_roster_Fits_r1 ((leaves, (bif leaves then 16 else 17), (), (), l, (l.length : Int), (i : Int), ()), (r, b, (), ()), h, ()) =
      some (match seeStep r leaves (fun e h => Sum.inl ((e, ()), (r, b, (), ()), h, ())) (h, seen) x with
        | .inl a' => .inl ((leaves, (bif leaves then 16 else 17), (), (), l, (l.length : Int), ((i + 1 : Nat) : Int), ()), (r, b, (), ()), a'.1, ())
        | .inr z => .inr z) := by
  have h1 : (i : Int) < (l.length : Int) := by omega
  simp only [g_roster_Fits_r1, h1, decide_true, cond_true, Int.natCast_nonneg, Bool.and_self, hx, hs.count, SeenM.twice, wrap1' hi hl]
  unfold seeStep personE
  by_cases h2 : x < 0
  · have : ¬ 0 ≤ x := by omega
    simp [h2, this]
  by_cases h3 : 256 ≤ x
  · have : ¬ x < 256 := by omega
    simp [h2, h3, this]
  have h4 : 0 ≤ x := by omega
  have h5 : x < 256 := by omega
  by_cases h6 : x ∈ seen
  · simp [h2, h3, h4, h5, h6]
  cases leaves <;> by_cases h7 : 0 ≤ findR r x <;> simp [h2, h3, h4, h5, h6, h7]
theorem see_lfp {b : Batch} (r : Roster) (leaves : Bool) (l : List Int) (h : List (Int × Int)) (seen : List Int) (hl : l.length ≤ 9223372036854775807) (hs : SeenM h seen) :
    ∃ h', (askL r leaves l seen = 0 → SeenM h' (askSeen l seen)) ∧ lfp g_roster_Fits_r1 ((leaves, (bif leaves then 16 else 17), (), (), l, (l.length : Int), 0, ()), (r, b, (), ()), h, ()) =
      some (bif decide (askL r leaves l seen = 0) then .inr ((), (r, b, (), ()), h', ()) else .inl ((askL r leaves l seen, ()), (r, b, (), ()), h', ())) := by
  obtain ⟨h', h1, h2⟩ := see_fold r leaves (fun a : List (Int × Int) × List Int => (Sum.inr ((), (r, b, (), ()), a.1, ()) : (Int × Unit) × (Vector Entry 64 × Batch × Unit × Unit) × List (Int × Int) × Unit ⊕ Unit × (Vector Entry 64 × Batch × Unit × Unit) × List (Int × Int) × Unit))
    (fun e h => Sum.inl ((e, ()), (r, b, (), ()), h, ())) l h seen hs
  refine ⟨h', h1, ?_⟩
  rw [← h2]
  exact lfp_list (f := g_roster_Fits_r1) l (fun i (a : List (Int × Int) × List Int) => ((leaves, (bif leaves then 16 else 17), (), (), l, (l.length : Int), (i : Int), ()), (r, b, (), ()), a.1, ()))
    (seeStep r leaves (fun e h => Sum.inl ((e, ()), (r, b, (), ()), h, ()))) (fun _ _ a => SeenM a.1 a.2) (fun a => .inr ((), (r, b, (), ()), a.1, ()))
    (fun i x rest a _ hi hx ha => by
      refine ⟨fun a' ha' => ?_, (see_round (b := b) r leaves l i x a.1 a.2 hi hl hx ha).trans (by cases seeStep r leaves (fun e h => (Sum.inl ((e, ()), (r, b, (), ()), h, ()) : (Int × Unit) × (Vector Entry 64 × Batch × Unit × Unit) × List (Int × Int) × Unit ⊕ Unit × (Vector Entry 64 × Batch × Unit × Unit) × List (Int × Int) × Unit)) (a.1, a.2) x <;> rfl)⟩
      unfold seeStep at ha'
      by_cases hp : personE r a.2 leaves x = 0
      · simp only [hp, decide_true, cond_true, Sum.inl.injEq] at ha'
        subst ha'
        exact ha.see (personE_0.1 hp).2.2.1
      · simp [hp] at ha')
    (fun a _ => by simp [g_roster_Fits_r1]) l 0 (h, seen) rfl (by omega) hs
theorem eq_roster_Fits : Eqs c_roster_Fits g_roster_Fits := Eqs.tot fun (r, b, _) hf => by
  change Batch at b
  have hb : Fine (.list .i) b.Leaves ∧ Fine (.list .i) b.Joins := fine_batch.1 hf.2.1
  have hL : b.Leaves.length * 8 ≤ 140737488355328 := fine_li hb.1
  have hJ : b.Joins.length * 8 ≤ 140737488355328 := fine_li hb.2
  show g_roster_Fits (r, b, ()) = some (fits r b, ())
  simp only [g_roster_Fits, fits]
  have hck : decide (chkR r = 0) = goodRoster r := by
    cases hg : goodRoster r <;> simp [chkR, hg]
  cases hg : goodRoster r with
  | false => simp [chkR, hg]
  | true =>
    rw [hck, hg]
    simp only [Bool.not_true, cond_false, cond_true]
    obtain ⟨h1, k1, k2⟩ := see_lfp (b := b) r true b.Leaves [] [] (by omega) .nil
    simp only [cond_true] at k2
    rw [k2]
    by_cases ha : askL r true b.Leaves [] = 0
    case neg => simp [ha]
    have hs1 := k1 ha
    have hc := cntW_le (taken r)
    have hl := askL_len ha
    obtain ⟨h2, k3, k4⟩ := see_lfp (b := b) r false b.Joins h1 (askSeen b.Leaves []) (by omega) hs1
    simp only [cond_false] at k4
    have hcg : ∀ (l s s' : List Int), (∀ x, x ∈ s ↔ x ∈ s') → askL r false l s = askL r false l s' := by
      intro l
      induction l with
      | nil => intro _ _ _; rfl
      | cons w l ih =>
        intro s s' hss
        have hp : personE r s false w = personE r s' false w := by simp only [personE, hss w]
        simp only [askL, hp]
        rw [ih (w :: s) (w :: s') fun x => by simp [hss x]]
    have hsw : askL r false b.Joins (askSeen b.Leaves []) = askL r false b.Joins b.Leaves := hcg _ _ _ fun x => by simp [askSeen]
    simp only [ha, decide_true, cond_true, Option.bind_some, Sum.elim_inr]
    rw [k4, hsw]
    by_cases hj : askL r false b.Joins b.Leaves = 0
    case neg => simp [hj]
    have hjl := askL_len hj
    simp only [hj, decide_true, cond_true, Option.bind_some, Sum.elim_inr]
    rw [i64_in (64 - cntW (taken r)) (by omega), i64_in _ (by omega)]
    by_cases h3 : (b.Joins.length : Int) ≤ 64 - cntW (taken r) + b.Leaves.length
    · have : ¬ 64 - cntW (taken r) + (b.Leaves.length : Int) < b.Joins.length := by omega
      simp [h3, this]
    · have : 64 - cntW (taken r) + (b.Leaves.length : Int) < b.Joins.length := by omega
      simp [h3, this]
end Go.Co.N
end

section
namespace Go.Co.N
open Go Go.Co

/-- The free slots of a roster, rising. -/
def freeR (r : Roster) : List Nat := (List.range 64).filter fun s => !isOn r s
theorem freeL_taken (r : Roster) : freeL (taken r) = freeR r := by
  unfold freeL freeR taken
  refine List.filter_congr fun i hi => ?_
  have hi : i < 64 := by simpa using hi
  rw [bitI_word]; simp [hi]
theorem freeR_len (r : Roster) : (freeR r).length = freeN r := by
  unfold freeR freeN
  rw [filter_cnt]
theorem range_split {n s : Nat} {l1 l2 : List Nat} (h : List.range n = l1 ++ s :: l2) : (∀ k, k < s → k ∈ l1) ∧ s < n ∧ (∀ x ∈ l2, x ≠ s) ∧ s ∉ l1 := by
  have hp : (l1 ++ s :: l2).Pairwise (· < ·) := h ▸ List.pairwise_lt_range
  obtain ⟨_, h2, h3⟩ := List.pairwise_append.1 hp
  have h2 := List.pairwise_cons.1 h2
  have hs : s < n := by
    have : s ∈ List.range n := by rw [h]; simp
    simpa using this
  refine ⟨fun k hk => ?_, hs, fun x hx => Nat.ne_of_gt (h2.1 x hx), fun hm => absurd (h3 s hm s (List.mem_cons_self ..)) (Nat.lt_irrefl _)⟩
  have : k ∈ List.range n := by simp; omega
  rw [h] at this
  rcases List.mem_append.1 this with hm | hm
  · exact hm
  · rcases List.mem_cons.1 hm with rfl | hm
    · omega
    · have := h2.1 k hm; omega
theorem freeR_cons {r : Roster} {s : Nat} {F : List Nat} (h : freeR r = s :: F) : s < 64 ∧ lowFree r = s ∧ ∀ e : Entry, e.Base ≠ 0 → freeR (Arr.put r (s : Int) e) = F := by
  obtain ⟨l1, l2, h1, h2, h3, h4⟩ := List.filter_eq_cons_iff.1 h
  obtain ⟨k1, k2, k3, k4⟩ := range_split h1
  have hf : isOn r s = false := by simpa using h3
  refine ⟨k2, ?_, fun e he => ?_⟩
  · have hpos : 0 < freeN r := by rw [← freeR_len, h]; simp
    obtain ⟨t, ht, e1, e2, e3⟩ := lowFree_ok hpos
    rw [e1]
    have h5 : ¬ t < s := fun hlt => by
      have := h2 t (k1 t hlt)
      rw [e2] at this; simp at this
    have h6 : ¬ s < t := fun hlt => by rw [e3 s hlt] at hf; cases hf
    omega
  · have hon : ∀ x, isOn (Arr.put r (s : Int) e) x = if s = x then true else isOn r x := fun x => by
      rw [isOn_put r k2]
      simp [he]
    unfold freeR
    rw [h1, List.filter_append, List.filter_cons]
    have e1 : l1.filter (fun x => !isOn (Arr.put r (s : Int) e) x) = [] := List.filter_eq_nil_iff.2 fun x hx => by
      rw [hon]
      split
      · simp
      · exact h2 x hx
    have e2 : l2.filter (fun x => !isOn (Arr.put r (s : Int) e) x) = F := by
      rw [← h4]
      refine List.filter_congr fun x hx => ?_
      rw [hon, if_neg (fun e => k3 x hx e.symm)]
    rw [e1, e2, hon]
    simp
/-- Joiners on these slots. -/
def joinS (since : Int) : List Int → List Nat → Int → Roster → Roster × List Seat
  | w :: ws, s :: ss, b, r => ((joinS since ws ss (b + 1) (Arr.put r (s : Int) ⟨w, b, since⟩)).1, ⟨w, (s : Int)⟩ :: (joinS since ws ss (b + 1) (Arr.put r (s : Int) ⟨w, b, since⟩)).2)
  | _, _, _, r => (r, [])
theorem joinS_eq (since : Int) : ∀ (ws : List Int) (b : Int) (r : Roster), ws.length ≤ (freeR r).length → 1 ≤ b → joinS since ws ((freeR r).take ws.length) b r = joinGo since ws b r
  | [], _, _, _, _ => by simp [joinS, joinGo]
  | w :: ws, b, r, hl, hb => by
    cases hF : freeR r with
    | nil => rw [hF] at hl; simp at hl
    | cons s F =>
      obtain ⟨h1, h2, h3⟩ := freeR_cons hF
      have h3 := h3 ⟨w, b, since⟩ (by show b ≠ 0; omega)
      rw [hF] at hl
      simp only [List.length_cons] at hl
      simp only [List.length_cons, List.take_succ_cons, joinS, joinGo, h2]
      have ih := joinS_eq since ws (b + 1) (Arr.put r (s : Int) ⟨w, b, since⟩) (by rw [h3]; omega) (by omega)
      rw [h3] at ih
      rw [ih]
abbrev JA := Roster × List Seat × List Int
def joinStep {Z : Type} (since base : Int) (a : JA) (x : Int) : JA ⊕ Z :=
  .inl (Arr.put a.1 x ⟨a.2.2.headD 0, base + (a.2.1.length : Int), since⟩, a.2.1 ++ [⟨a.2.2.headD 0, x⟩], a.2.2.tail)
theorem joinS_fold {Z : Type} (since base : Int) (fin : JA → Z) : ∀ (ws : List Int) (ss : List Nat) (acc : List Seat) (r : Roster), ws.length = ss.length →
    foldE (joinStep since base) fin (ss.map fun (i : Nat) => (i : Int)) (r, acc, ws) = fin ((joinS since ws ss (base + acc.length) r).1, acc ++ (joinS since ws ss (base + acc.length) r).2, [])
  | [], [], acc, r, _ => by simp [foldE, joinS]
  | [], _ :: _, _, _, h => by simp at h
  | _ :: _, [], _, _, h => by simp at h
  | w :: ws, s :: ss, acc, r, h => by
    simp only [List.map_cons, foldE, joinStep, joinS, List.headD_cons, List.tail_cons]
    have := joinS_fold since base fin ws ss (acc ++ [⟨w, (s : Int)⟩]) (Arr.put r (s : Int) ⟨w, base + acc.length, since⟩) (by simpa using h)
    rw [show foldE (joinStep since base) fin (ss.map fun (i : Nat) => (i : Int)) (Arr.put r (s : Int) ⟨w, base + acc.length, since⟩, acc ++ [⟨w, (s : Int)⟩], ws) = _ from this]
    simp [Int.add_assoc]
section
variable {r : Roster} {b : Batch} {since base : Int}
theorem rmove_loop1 (hc : canLeave r b.Leaves) (hl : b.Leaves.length ≤ 256) :
    lfp g_roster_Move_r1 ((since, base, (), (), (), [], (), b.Leaves, (b.Leaves.length : Int), 0, ()), (r, b, zeroR, ()), ()) = some ((since, base, (), (), (), (leaveGo b.Leaves r).2, (), ()), ((leaveGo b.Leaves r).1, b, zeroR, ()), ()) := by
  have h := lfp_list (f := g_roster_Move_r1) b.Leaves (fun i (a : List Co.Seat × Roster) => ((since, base, (), (), (), a.1, (), b.Leaves, (b.Leaves.length : Int), (i : Int), ()), (a.2, b, zeroR, ()), ()))
    (fun a w => Sum.inl (a.1 ++ [⟨w, findR a.2 w⟩], Arr.put a.2 (findR a.2 w) zeroE)) (fun i todo a => canLeave a.2 todo ∧ a.1.length = i) (fun a => ((since, base, (), (), (), a.1, (), ()), (a.2, b, zeroR, ()), ()))
    (fun i x rest a _ hi hx ⟨ha, hal⟩ => by
      obtain ⟨s, hs, he, hon, hw, hn⟩ := canLeave_next ha
      refine ⟨fun a' ha' => ?_, ?_⟩
      · simp only [Sum.inl.injEq] at ha'
        subst ha'
        simp only [he]
        exact ⟨hn, by simp [hal]⟩
      · have h1 : (i : Int) < (b.Leaves.length : Int) := by omega
        have h2 : (a.1.length + 1) * 16 ≤ 140737488355328 := by omega
        have h3 : (s : Int) < 64 := by omega
        simp only [g_roster_Move_r1, h1, hx, he, h2, h3, decide_true, cond_true, Int.natCast_nonneg, Bool.and_self, wrap1' hi (by omega)]
        rfl)
    (fun a _ => by simp [g_roster_Move_r1]) b.Leaves 0 ([], r) rfl (by omega) ⟨hc, rfl⟩
  rw [leave_fold] at h
  simpa using h
theorem rmove_loop2 {left : List Co.Seat} {z : Roster} (hr : b.Joins.length ≤ freeN r) (hb : b.Joins ≠ [] → 1 ≤ base ∧ base ≤ 32768 - b.Joins.length) :
    lfp g_roster_Move_r2 ((since, base, (), (), (), left, [], (takeW (taken r) (b.Joins.length : Int)).1, ((takeW (taken r) (b.Joins.length : Int)).1.length : Int), 0, ()), (r, b, z, ()), ()) = some (((), (), left, (joinGo since b.Joins base r).2, ()), ((joinGo since b.Joins base r).1, z, ()), ()) := by
  have hlen : b.Joins.length ≤ 64 := Nat.le_trans hr (freeN_le r)
  have hcw := cntW_taken r
  have ht : (takeW (taken r) (b.Joins.length : Int)).1 = ((freeR r).take b.Joins.length).map fun (i : Nat) => (i : Int) := by
    unfold takeW
    have h1 : ¬ (b.Joins.length : Int) < 0 := by omega
    have h2 : ¬ 64 - cntW (taken r) < (b.Joins.length : Int) := by omega
    rw [if_neg h1, if_neg h2, freeL_taken, Int.toNat_natCast]
  have hfl : ((freeR r).take b.Joins.length).length = b.Joins.length := by rw [List.length_take, freeR_len]; omega
  rw [ht]
  have hsl : (((freeR r).take b.Joins.length).map fun (i : Nat) => (i : Int)).length = b.Joins.length := by rw [List.length_map, hfl]
  have hmem : ∀ x ∈ ((freeR r).take b.Joins.length).map (fun (i : Nat) => (i : Int)), 0 ≤ x ∧ x < 64 := fun x hx => by
    obtain ⟨i, hi, rfl⟩ := List.mem_map.1 hx
    have := List.mem_of_mem_take hi
    unfold freeR at this
    simp only [List.mem_filter, List.mem_range] at this
    omega
  have h := lfp_list (f := g_roster_Move_r2) (((freeR r).take b.Joins.length).map fun (i : Nat) => (i : Int)) (fun i (a : JA) => ((since, base, (), (), (), left, a.2.1, ((freeR r).take b.Joins.length).map (fun (i : Nat) => (i : Int)), ((((freeR r).take b.Joins.length).map (fun (i : Nat) => (i : Int))).length : Int), (i : Int), ()), (a.1, b, z, ()), ()))
    (joinStep since base) (fun i todo a => a.2.1.length = i ∧ a.2.2 = b.Joins.drop i ∧ ∀ x ∈ todo, 0 ≤ x ∧ x < 64) (fun a => (((), (), left, a.2.1, ()), (a.1, z, ()), ()))
    (fun i x rest a hd hi hx ⟨ha, hal, hm⟩ => by
      have hij : i < b.Joins.length := by rw [hsl] at hi; exact hi
      obtain ⟨x0, x1⟩ := hm x (List.mem_cons_self ..)
      have hdr := List.drop_eq_getElem_cons hij
      have hh : a.2.2.headD 0 = lat b.Joins (i : Int) := by rw [hal, hdr, lat_nat _ _ hij]; rfl
      refine ⟨fun a' ha' => ?_, ?_⟩
      · simp only [joinStep, Sum.inl.injEq] at ha'
        subst ha'
        refine ⟨by simp [ha], ?_, fun y hy => hm y (List.mem_cons_of_mem _ hy)⟩
        show a.2.2.tail = _
        rw [hal, List.tail_drop]
      · have h1 : (i : Int) < (b.Joins.length : Int) := by omega
        have h2i : (i + 1) * 16 ≤ 140737488355328 := by omega
        have hb' := hb (fun e => by rw [e] at hij; simp at hij)
        have hw : IntKind.i64.wrap (base + (i : Int)) = base + (i : Int) := i64_in _ (by omega)
        simp only [g_roster_Move_r2, hsl, h1, hx, x0, x1, decide_true, cond_true, Int.natCast_nonneg, Bool.and_self, h2i, hw, ha, joinStep, hh, wrap1' hij (by omega)]
        rfl)
    (fun a _ => by simp [g_roster_Move_r2]) (((freeR r).take b.Joins.length).map fun (i : Nat) => (i : Int)) 0 (r, [], b.Joins) rfl (by omega) ⟨rfl, rfl, hmem⟩
  rw [joinS_fold since base _ b.Joins _ [] r hfl.symm] at h
  by_cases hne : b.Joins = []
  · rw [hne] at h ⊢
    simpa [joinS, joinGo] using h
  · have hb' := hb hne
    have hq := joinS_eq since b.Joins base r (by rw [freeR_len]; exact hr) hb'.1
    simp only [List.length_nil, Int.natCast_zero, Int.add_zero, List.nil_append] at h
    rw [hq] at h
    exact h
end
theorem eq_roster_Move : Eqs c_roster_Move g_roster_Move := Eqs.tot fun (r, b, since, base, _) hf => by
  change Int at since base
  change Batch at b
  have zr : (Vector.replicate 64 (St.zero St.entry) : Roster) = zeroR := rfl
  show g_roster_Move (r, b, since, base, ()) = some ((move r b since base).r, (move r b since base).left, (move r b since base).joined, (move r b since base).e, ())
  simp only [g_roster_Move, zr]
  by_cases h0 : fits r b = 0
  case neg =>
    have : move r b since base = ⟨zeroR, [], [], fits r b⟩ := by simp [move, h0]
    simp only [h0, this, decide_false, Bool.not_false, cond_true]
  obtain ⟨hroom, hJ, hL⟩ := move_room h0
  have hcl := canLeave_of (fits_ok h0).2.1
  by_cases h1 : since < 1
  · have g : ¬ 1 ≤ since := by omega
    have : move r b since base = ⟨zeroR, [], [], 19⟩ := by simp [move, h0, g]
    simp only [h0, h1, this, decide_true, Bool.not_true, cond_true, cond_false]
  by_cases h2 : 200 < since
  · have g : ¬ since ≤ 200 := by omega
    have : move r b since base = ⟨zeroR, [], [], 19⟩ := by simp [move, h0, g]
    simp only [h0, h1, h2, this, decide_true, decide_false, Bool.not_true, cond_true, cond_false]
  have g1 : 1 ≤ since := by omega
  have g2 : since ≤ 200 := by omega
  have g3 : (b.Joins.length : Int) ≤ 64 := by omega
  simp only [h0, h1, h2, g3, Int.natCast_nonneg, Bool.and_self, decide_true, decide_false, Bool.not_true, cond_true, cond_false, Option.bind_some]
  have hm : move r b since base = bif namesFree r base (b.Joins.length : Int) then moveGo r b since base else ⟨zeroR, [], [], 3⟩ := by
    unfold move
    simp only [h0, g1, g2, decide_true, cond_true, Bool.and_self]
  rw [hm]
  cases hn : namesFree r base (b.Joins.length : Int) with
  | false => rfl
  | true =>
    simp only [Bool.not_true, cond_true, cond_false]
    rw [rmove_loop1 hcl (by omega)]
    simp only [Option.bind_some]
    rw [rmove_loop2 hroom fun hne => by
      unfold namesFree at hn
      have hl : ¬ (b.Joins.length : Int) = 0 := fun e => hne (List.length_eq_zero_iff.1 (by omega))
      simp only [hl, decide_false, Bool.false_or, Bool.and_eq_true, decide_eq_true_eq] at hn
      exact hn.1]
    rfl
end Go.Co.N
end

section
namespace Go.Co.N
open Go Go.Co

theorem replaced_small (l : List Co.Seat) : 0 ≤ replaced l ∧ replaced l < 2097152 := by
  unfold replaced
  have := word_lt (fun v => l.any fun s => below v (leaf s.Slot)) 21
  have h2 : (2 : Nat) ^ 21 = 2097152 := by decide
  omega
theorem nextT_full {t : Tree} {b : Batch} (hg : goodTree t = true) (he : t.Epoch ≠ 200) (hfi : fits t.Roster b = 0)
    (hf : 32768 - cntTo (replaced (goneOf t.Roster b.Leaves)) 21 - (b.Joins.length : Int) < t.Fresh) : nextT t b = ⟨zeroT, [], [], 3⟩ := by
  obtain ⟨e0, e1, f0, f1, hk, _, hks, _⟩ := goodTree_iff.1 hg
  have hm := (replaced_small (goneOf t.Roster b.Leaves)).2
  have hc := cntTo_le (replaced (goneOf t.Roster b.Leaves)) 21
  by_cases ht : (stepTurn t b).2.2 = 0
  · have hfr := turn_fresh ht
    obtain ⟨_, _, hfree, _, _⟩ := turn_ok ht
    have hb : (stepTurn t b).2.1 = t.Fresh + cntTo (replaced (goneOf t.Roster b.Leaves)) 21 := hfr
    have hle : t.Fresh + cntTo (replaced (goneOf t.Roster b.Leaves)) 21 ≤ 32768 := by
      rcases free_cnt hfree with h0 | ⟨_, h0, _⟩ <;> omega
    have hj : ¬ (b.Joins.length : Int) = 0 := by omega
    have hlt : ¬ (t.Fresh + cntTo (replaced (goneOf t.Roster b.Leaves)) 21) ≤ 32768 - (b.Joins.length : Int) := by omega
    have hn : namesFree t.Roster (stepTurn t b).2.1 (b.Joins.length : Int) = false := by
      rw [hb]
      unfold namesFree
      rw [decide_eq_false hj, decide_eq_false hlt]
      simp
    have s1 : 1 ≤ t.Epoch + 1 := by omega
    have s2 : t.Epoch + 1 ≤ 200 := by omega
    have hmv : stepMove t b = ⟨zeroR, [], [], 3⟩ := by
      unfold stepMove move
      rw [hn]
      simp [hfi, s1, s2]
    simp [nextT, hg, he, hfi, ht, hmv]
  · have he3 : (stepTurn t b).2.2 = 3 := by
      unfold stepTurn turn at ht ⊢
      have hstp : allN 21 (fun v => inB (replaced (goneOf t.Roster b.Leaves)) v || decide (stp t.Keys v < 255)) = true := allN_iff.2 fun v hv => by
        have := (hks v hv).2
        have : stp t.Keys v < 255 := by omega
        simp [this]
      rw [hstp] at ht ⊢
      simp only [hk, hm, decide_true, cond_true] at ht ⊢
      cases hfr : free t.Keys t.Fresh (cntTo (replaced (goneOf t.Roster b.Leaves)) 21) with
      | true => rw [hfr] at ht; exact absurd rfl ht
      | false => rfl
    simp [nextT, hg, he, hfi, he3]
theorem eq_plan_step : Eqs c_plan_step g_plan_step := Eqs.tot fun (t, b, _) _ => by
  change Tree at t
  change Batch at b
  have zt : (Tree.mk 0 0 (Vector.replicate 21 (St.zero St.key)) (Vector.replicate 64 (St.zero St.entry))) = zeroT := rfl
  show g_plan_step (t, b, ()) = some ((nextT t b).t, ⟨(nextT t b).t.Epoch, (nextT t b).left, (nextT t b).joined, []⟩, (nextT t b).e, ())
  simp only [g_plan_step, zt]
  by_cases hg : goodTree t = true
  case neg =>
    have hc : ¬ chkT t = 0 := fun e => hg (chkT_0.1 e)
    have h31 : chkT t = 31 := by simp [chkT, hg]
    have : nextT t b = ⟨zeroT, [], [], 31⟩ := by simp [nextT, hg]
    simp only [this, h31]; rfl
  have hc : chkT t = 0 := chkT_0.2 hg
  by_cases he : t.Epoch = 200
  · have : nextT t b = ⟨zeroT, [], [], 19⟩ := by simp [nextT, hg, he]
    simp only [hc, he, this, decide_true, Bool.not_true, cond_true, cond_false]; rfl
  by_cases hfi : fits t.Roster b = 0
  case neg =>
    have : nextT t b = ⟨zeroT, [], [], fits t.Roster b⟩ := by simp [nextT, hg, he, hfi]
    simp only [hc, he, hfi, this, decide_true, decide_false, Bool.not_true, Bool.not_false, cond_true, cond_false]; rfl
  obtain ⟨hroom, hJ, hL⟩ := move_room hfi
  obtain ⟨e0, e1, f0, f1, hk, _, hks, _⟩ := goodTree_iff.1 hg
  have hm := replaced_small (goneOf t.Roster b.Leaves)
  have hcn := cntTo_le (replaced (goneOf t.Roster b.Leaves)) 21
  have h32 : cntTo (replaced (goneOf t.Roster b.Leaves)) 32 = cntTo (replaced (goneOf t.Roster b.Leaves)) 21 := cntTo_small hm.1 (k := 21) (by omega) 11
  simp only [hc, he, hfi, hL, decide_true, decide_false, Bool.not_true, cond_true, cond_false, Option.bind_some, h32]
  rw [i64_in (32768 - cntTo (replaced (goneOf t.Roster b.Leaves)) 21) (by omega), i64_in (32768 - cntTo (replaced (goneOf t.Roster b.Leaves)) 21 - (b.Joins.length : Int)) (by omega), i64_in (t.Epoch + 1) (by omega)]
  by_cases hfull : 32768 - cntTo (replaced (goneOf t.Roster b.Leaves)) 21 - (b.Joins.length : Int) < t.Fresh
  · rw [nextT_full hg he hfi hfull]
    simp only [hfull, decide_true, cond_true]; rfl
  simp only [hfull, decide_false, cond_false]
  have hst : turn t.Keys (replaced (goneOf t.Roster b.Leaves)) t.Fresh = stepTurn t b := rfl
  simp only [hst]
  by_cases ht : (stepTurn t b).2.2 = 0
  case neg =>
    have : nextT t b = ⟨zeroT, [], [], (stepTurn t b).2.2⟩ := by simp [nextT, hg, he, hfi, ht]
    simp only [ht, this, decide_false, Bool.not_false, cond_true]; rfl
  have hmv : move t.Roster b (t.Epoch + 1) (stepTurn t b).2.1 = stepMove t b := rfl
  simp only [ht, hmv, decide_true, Bool.not_true, cond_false]
  by_cases hme : (stepMove t b).e = 0
  case neg =>
    have : nextT t b = ⟨zeroT, [], [], (stepMove t b).e⟩ := by simp [nextT, hg, he, hfi, ht, hme]
    simp only [hme, this, decide_false, Bool.not_false, cond_true]; rfl
  have hfr : (stepTurn t b).2.1 = t.Fresh + cntTo (replaced (goneOf t.Roster b.Leaves)) 21 := turn_fresh ht
  have hjl : (stepMove t b).joined.length = b.Joins.length := by
    unfold stepMove
    rw [(move_joined hme).1, moveGo]
    exact joinGo_len _ _ _ _
  have : nextT t b = ⟨⟨t.Epoch + 1, (stepTurn t b).2.1 + (stepMove t b).joined.length, (stepTurn t b).1, (stepMove t b).r⟩, (stepMove t b).left, (stepMove t b).joined, 0⟩ := by simp [nextT, hg, he, hfi, ht, hme]
  rw [this]
  simp only [hme, decide_true, Bool.not_true, cond_false]
  rw [i64_in _ (by rw [hfr, hjl]; omega)]
end Go.Co.N
end

section
namespace Go.Co.N
open Go Go.Co

theorem belowR_leaf {r : Roster} {v : Int} (hb : belowR r v = true) (hv : 21 ≤ v) (hv2 : v < 85) : ∃ s : Nat, s < 64 ∧ v = leaf s ∧ isOn r s = true := by
  obtain ⟨s, hs, hb⟩ := anyN_iff.1 hb
  simp only [Bool.and_eq_true] at hb
  obtain ⟨k, hk⟩ := Int.eq_ofNat_of_zero_le (show 0 ≤ v - 21 by omega)
  have hvk : v = ((21 + k : Nat) : Int) := by omega
  have := allN_iff.1 (allN_iff.1 below_leaf k (by omega)) s hs
  simp only [decide_eq_true_eq] at this
  rw [hvk, this] at hb
  simp only [decide_eq_true_eq] at hb
  obtain ⟨h1, rfl⟩ := hb
  exact ⟨k, hs, by rw [leaf_in hs]; omega, h1⟩
theorem child_nat {v i : Nat} (hv : v < 21) (hi : i < 4) : child v i = ((4 * v + 1 + i : Nat) : Int) := by unfold child; rw [if_pos ⟨by omega, by omega, by omega, by omega⟩]; omega
theorem good_childT {t : Tree} (hg : goodTree t = true) {v : Nat} {i : Nat} (hv : v < 21) (hi : i < 4) (hb : belowR t.Roster (child v i) = true) : good (keyN t (child v i)) = true := by
  have hc := child_nat hv hi
  by_cases hlt : 4 * v + 1 + i < 21
  · rw [hc]; exact good_inner hg hlt
  · obtain ⟨s, hs, he, hon⟩ := belowR_leaf hb (by omega) (by omega)
    rw [he]; exact good_leafK hg hs hon
theorem nodeK_eq (t : Tree) {v : Int} (h0 : 0 ≤ v) (h1 : v ≤ 84) : nodeK t v = keyN t v := by
  obtain ⟨n, rfl⟩ := Int.eq_ofNat_of_zero_le h0
  unfold nodeK slot
  by_cases h : n < 21
  · have : ¬ (21 ≤ (n : Int) ∧ (n : Int) < 85) := by omega
    rw [if_neg this, keyN_inner t h]; rfl
  · have : 21 ≤ (n : Int) ∧ (n : Int) < 85 := by omega
    have h2 : 0 ≤ (n : Int) - 21 := by omega
    rw [if_pos this, decide_eq_true h2]
    have he : (n : Int) = leaf ((n - 21 : Nat) : Int) := by rw [leaf_in (by omega)]; omega
    have hs : (n : Int) - 21 = ((n - 21 : Nat) : Int) := by omega
    rw [hs, cond_true, he, keyN_leaf t (by omega)]
theorem maskR_below (r : Roster) (v : Int) : (!decide (bw .and .u64 (mask v) (taken r) = 0)) = belowR r v := by
  unfold taken mask belowR
  rw [word_and]
  refine bool_eq ?_
  simp only [Bool.not_eq_true', decide_eq_false_iff_not, anyN_iff]
  constructor
  · intro h
    refine Classical.byContradiction fun hn => h ?_
    have : word (fun i => below v (leaf i) && isOn r i) 64 = 0 := by
      have : word (fun i => below v (leaf i) && isOn r i) 64 = word (fun _ => false) 64 := word_congr 64 fun i hi => by
        cases hq : (below v (leaf i) && isOn r i) with
        | false => rfl
        | true => exact absurd ⟨i, hi, by rw [Bool.and_comm]; exact hq⟩ hn
      rw [this]; exact (by decide : word (fun _ => false) 64 = 0)
    rw [this]; rfl
  · rintro ⟨i, hi, hb⟩ h
    have hz : word (fun i => below v (leaf i) && isOn r i) 64 = 0 := by omega
    have := word_bit (fun i => below v (leaf i) && isOn r i) 64 i
    rw [hz] at this
    rw [Bool.and_comm] at hb
    simp [hi, hb] at this
theorem seal_item {t : Tree} {v fr : Int} (h1 : good (keyN t fr) = true) (h2 : good (keyN t v) = true) : sealK (keyN t fr) (keyN t v) = ((itemOf t v fr).Box, 0) := by
  unfold sealK itemOf
  rw [h1, h2]; rfl
section
variable {t : Tree} {m : Rekey} (hg : goodTree t = true)
include hg
theorem pitems_loop2 {M : Int} (h0 : 0 ≤ M) (h1 : M ≤ 4294967295) {acc : List Co.Item} {v : Nat} (hv : v < 21) (h : acc.length ≤ 1000) :
    lfp g_plan_items_r2 (((), (), (), taken t.Roster, M, (v : Int), 0, ()), (t, m, acc, ()), ()) = some (((), (), (), taken t.Roster, M, (v : Int), ()), (t, m, acc ++ nodeItems t M v, ()), ()) := by
  have hb : decide (bw .and .u32 (shrI .u32 M (IntKind.u64.wrap (v : Int))) 1 = 1) = inB M v := by
    rw [Go.IntWalk.u64_in _ (by omega)]; exact bit_in M v h0 h1 (by omega) (by omega)
  unfold nodeItems
  cases hin : inB M v with
  | false => rw [hin] at hb; exact lfp_inr (by simp only [g_plan_items_r2, hb, cond_false, List.append_nil])
  | true =>
    rw [hin] at hb
    rw [lfp_run' (fun i => (((), (), (), taken t.Roster, M, (v : Int), (i : Int), ()), (t, m, acc ++ kidItems t v i, ()), ())) 4 (by simp [kidItems]) fun i hi => by
      have h1 : (i : Int) < 4 := by omega
      have hl := kidItems_len t v i
      have h2 : ((acc ++ kidItems t v i).length + 1) * 48 ≤ 140737488355328 := by rw [List.length_append]; omega
      have hc := child_nat hv hi
      have b1 : betw (child v i) 0 84 = true := betw_iff.2 (by omega)
      have b2 : betw (v : Int) 0 84 = true := betw_iff.2 (by omega)
      simp only [g_plan_items_r2, hb, h1, decide_true, cond_true, wrap1 i (by omega), kidItems_succ, maskR_below]
      cases hbr : belowR t.Roster (child v i) with
      | false => simp
      | true =>
        have hs := seal_item (good_childT hg hv hi hbr) (good_inner hg hv)
        simp only [cond_true, b1, b2, Option.bind_some, nodeK_eq t (show 0 ≤ child v i by omega) (show child v i ≤ 84 by omega), nodeK_eq t (show 0 ≤ (v : Int) by omega) (show (v : Int) ≤ 84 by omega), hs, decide_true, h2]
        rw [← List.append_assoc]
        rfl]
    exact lfp_inr (by simp [g_plan_items_r2, hb, kidItems])
theorem pitems_loop1 {M : Int} (h0 : 0 ≤ M) (h1 : M ≤ 4294967295) : ∀ (n : Nat) (acc : List Co.Item), n ≤ 21 → acc.length ≤ 4 * (21 - n) →
    lfp g_plan_items_r1 (((), (), (), taken t.Roster, M, (n : Int) - 1, ()), (t, m, acc, ()), ()) = some (((), (), (), M, ()), (t, m, acc ++ itemsUp t M n, ()), ())
  | 0, acc, _, _ => by
    simp only [itemsUp, List.append_nil]
    exact lfp_inr (by simp [g_plan_items_r1])
  | n + 1, acc, hn, ha => by
    have hl := nodeItems_len t M n
    have e1 : ((n + 1 : Nat) : Int) - 1 = (n : Int) := by omega
    rw [e1, lfp_inl (x' := (((), (), (), taken t.Roster, M, (n : Int) - 1, ()), (t, m, acc ++ nodeItems t M n, ()), ())) (by
      have hw : IntKind.i64.wrap ((n : Int) - 1) = (n : Int) - 1 := i64_in _ (by omega)
      simp only [g_plan_items_r1, Int.natCast_nonneg, decide_true, cond_true, pitems_loop2 hg h0 h1 (m := m) (acc := acc) (v := n) (by omega) (by omega), Option.bind_some, hw])]
    rw [pitems_loop1 h0 h1 n (acc ++ nodeItems t M n) (by omega) (by rw [List.length_append]; omega)]
    simp [itemsUp]
theorem pitems_loop4 {M : Int} (h0 : 0 ≤ M) (h1 : M ≤ 4294967295) {acc : List Co.Item} {s : Co.Seat} {k : Nat} (hk : k < 64) (hs : s.Slot = k) (hon : isOn t.Roster k = true) {j : List Co.Seat} {d e : Int} (h : acc.length ≤ 1000) :
    lfp g_plan_items_r4 (((), (), M, (), j, d, e, pathG s.Slot, 0, ()), (t, acc, s, ()), ()) = some (((), (), M, j, d, e, ()), (t, acc ++ joinItems t M s.Slot, ()), ()) := by
  have hlf := good_leafK hg hk hon
  have b1 : betw (leaf s.Slot) 0 84 = true := betw_iff.2 (by rw [hs, leaf_in hk]; omega)
  have hl0 : 0 ≤ leaf s.Slot ∧ leaf s.Slot ≤ 84 := by rw [hs, leaf_in hk]; omega
  rw [lfp_run' (fun i => (((), (), M, (), j, d, e, pathG s.Slot, (i : Int), ()), (t, acc ++ legItems t M s.Slot i, s, ()), ())) 3 (by simp [legItems]) fun i hi => by
    have g1 : (i : Int) < 3 := by omega
    have hl := legItems_len t M s.Slot i
    have h2 : ((acc ++ legItems t M s.Slot i).length + 1) * 48 ≤ 140737488355328 := by rw [List.length_append]; omega
    obtain ⟨v, hv, hv2, _⟩ := path_at hk i hi
    have hp : Arr.get (pathG s.Slot) (i : Int) = (v : Int) := by rw [hs, pathG_at hk i hi, hv]
    have b2 : betw (v : Int) 0 84 = true := betw_iff.2 (by omega)
    have hb : decide (bw .and .u32 (shrI .u32 M (IntKind.u64.wrap (v : Int))) 1 = 0) = !inB M v := by
      rw [Go.IntWalk.u64_in _ (by omega)]
      have hq := bit_in M v h0 h1 (by omega) (by omega)
      rw [← hq]
      rw [shr_u32 M v (by omega) (by omega)]
      have hle : 0 ≤ M / 2 ^ (v : Int).toNat ∧ M / 2 ^ (v : Int).toNat ≤ 4294967295 := ⟨Int.ediv_nonneg h0 (Int.pow_nonneg (by omega)), Int.le_trans (Int.ediv_le_self _ h0) h1⟩
      rw [bw_and_one _ hle.1 hle.2]
      refine bool_eq ?_
      simp only [decide_eq_true_eq, Bool.not_eq_true', decide_eq_false_iff_not]
      omega
    simp only [g_plan_items_r4, g1, decide_true, cond_true, Int.natCast_nonneg, Bool.and_self, hp, hb, wrap1 i (by omega), legItems_succ]
    cases hin : inB M (v : Int) with
    | true => simp
    | false =>
      have hse := seal_item (t := t) (v := (v : Int)) (fr := leaf s.Slot) (by rw [hs]; exact hlf) (good_inner hg hv2)
      simp only [Bool.not_false, cond_true, b1, b2, Option.bind_some, nodeK_eq t hl0.1 hl0.2, nodeK_eq t (show 0 ≤ (v : Int) by omega) (show (v : Int) ≤ 84 by omega), hse, decide_true, h2]
      rw [← List.append_assoc]
      rfl]
  exact lfp_inr (by simp [g_plan_items_r4, legItems, joinItems])
end
theorem eq_plan_items : Eqs c_plan_items g_plan_items := fun (t, m, _) y hf h => by
  change Tree at t
  change Rekey at m
  obtain ⟨hc, h⟩ := guardK_some h
  rw [← h]
  show g_plan_items (t, m, ()) = some (items t m.Leaves m.Joins, ())
  have hc : calls t m = true := hc
  unfold calls at hc
  simp only [Bool.and_eq_true, decide_eq_true_eq, List.all_eq_true] at hc
  obtain ⟨⟨hg, hj⟩, hon⟩ := hc
  have hm := replaced_small m.Leaves
  simp only [g_plan_items]
  have h1 := pitems_loop1 hg (m := m) hm.1 (by omega) 21 [] (by omega) (by simp)
  rw [show ((21 : Nat) : Int) - 1 = 20 from rfl] at h1
  rw [h1]
  simp only [List.nil_append, Option.bind_some]
  have hu := itemsUp_len t (replaced m.Leaves) 21
  have hloop := lfp_list (f := g_plan_items_r3) m.Joins (fun i (a : List Co.Item) => (((), (), replaced m.Leaves, m.Joins, (m.Joins.length : Int), (i : Int), ()), (t, a, ()), ()))
    (fun a s => Sum.inl (a ++ joinItems t (replaced m.Leaves) s.Slot)) (fun i todo a => a.length ≤ 84 + 3 * i ∧ ∀ s ∈ todo, betw s.Slot 0 63 = true ∧ isOn t.Roster s.Slot.toNat = true) (fun a => (((), ()), (a, ()), ()))
    (fun i x rest a _ hi hx ⟨ha, hon⟩ => by
      refine ⟨fun a' ha' => ?_, ?_⟩
      · simp only [Sum.inl.injEq] at ha'
        subst ha'
        have := legItems_len t (replaced m.Leaves) x.Slot 3
        refine ⟨?_, fun s hs => hon s (List.mem_cons_of_mem _ hs)⟩
        rw [List.length_append, show joinItems t (replaced m.Leaves) x.Slot = legItems t (replaced m.Leaves) x.Slot 3 from rfl]; omega
      · have g1 : (i : Int) < (m.Joins.length : Int) := by omega
        obtain ⟨o1, o2⟩ := hon x (List.mem_cons_self ..)
        have o1 := betw_iff.1 o1
        have hl4 := pitems_loop4 hg (M := replaced m.Leaves) hm.1 (by omega) (acc := a) (s := x) (k := x.Slot.toNat) (by omega) (by omega) o2 (j := m.Joins) (d := (m.Joins.length : Int)) (e := (i : Int)) (by omega)
        simp only [g_plan_items_r3, g1, hx, decide_true, cond_true, Int.natCast_nonneg, Bool.and_self]
        rw [show (bif decide (0 ≤ leaf x.Slot) then pathN x.Slot else zero3) = pathG x.Slot from rfl, hl4]
        simp only [Option.bind_some, wrap1' hi (by omega)])
    (fun a _ => by simp [g_plan_items_r3]) m.Joins 0 (itemsUp t (replaced m.Leaves) 21) rfl (by omega) ⟨by omega, hon⟩
  rw [join_items_fold] at hloop
  rw [show lfp g_plan_items_r3 (((), (), replaced m.Leaves, m.Joins, (m.Joins.length : Int), 0, ()), (t, itemsUp t (replaced m.Leaves) 21, ()), ()) = _ from hloop]
  rfl
theorem calls_next {t : Tree} {b : Batch} (h : (nextT t b).e = 0) (e : Int) (l : List Co.Seat) (i : List Co.Item) : calls (nextT t b).t ⟨e, l, (nextT t b).joined, i⟩ = true := by
  obtain ⟨h1, _, h2, _⟩ := nextT_joined h
  unfold calls
  simp only [Bool.and_eq_true, decide_eq_true_eq, List.all_eq_true]
  refine ⟨⟨nx_good h, by rw [h1]; exact h2⟩, fun s hs => ?_⟩
  obtain ⟨k, hk, he, hon, _⟩ := joined_on h hs
  rw [he]
  exact ⟨betw_iff.2 (by omega), by rw [Int.toNat_natCast]; exact hon⟩
theorem eq_plan_Next : Eqs c_plan_Next g_plan_Next := Eqs.tot fun (t, b, _) _ => by
  change Tree at t
  change Batch at b
  show g_plan_Next (t, b, ()) = some ((nextR t b).1, (nextR t b).2.1, (nextR t b).2.2, ())
  simp only [g_plan_Next]
  by_cases h : (nextT t b).e = 0
  · rw [nextR_is h, calls_next h]
    simp only [h, decide_true, Bool.not_true, cond_true, cond_false, Option.bind_some]
    rfl
  · have hr : nextR t b = (zeroT, St.zero .rekey, (nextT t b).e) := by unfold nextR; rw [decide_eq_false h]; rfl
    simp only [h, decide_false, Bool.not_false, cond_true, hr]; rfl
end Go.Co.N
end

section
namespace Go.Co.N
open Go Go.Co

theorem inB_word {p : Nat → Bool} {v : Nat} (hv : v < 21) : inB ((word p 21 : Nat) : Int) (v : Int) = p v := by
  have := bitI_word p 21 v
  unfold bitI at this
  simp only [hv, decide_true, Bool.true_and] at this
  rw [← this]
  unfold inB
  have h0 : 0 ≤ (v : Int) := by omega
  have h1 : (v : Int) < 32 := by omega
  simp [h0, h1]
end Go.Co.N
end

section
namespace Go.Co.N
open Go Go.Co

/-- Each name from lo to hi was seen once, no other. -/
def SpanM (h : List (Int × Int)) (lo hi : Int) : Prop := ∀ x, mget h x = if lo ≤ x ∧ x < hi then some 1 else none
def seeI (h : List (Int × Int)) (x : Int) : List (Int × Int) := mput h x (IntKind.wrap IntKind.i64 (Option.getD (mget h x) 0 + 1))
theorem SpanM.nil (a : Int) : SpanM [] a a := fun x => by
  have : ¬ (a ≤ x ∧ x < a) := by omega
  rw [if_neg this]; rfl
theorem SpanM.see {h : List (Int × Int)} {lo hi x : Int} (hs : SpanM h lo hi) (hx : ¬ (lo ≤ x ∧ x < hi)) (c : Int) : mget (seeI h x) c = if x = c then some 1 else if lo ≤ c ∧ c < hi then some 1 else none := by
  unfold seeI
  rw [mget_mput, hs x, if_neg hx, hs c]
  rfl
theorem SpanM.down {h : List (Int × Int)} {lo hi : Int} (hs : SpanM h lo hi) (hle : lo ≤ hi) : SpanM (seeI h (lo - 1)) (lo - 1) hi := fun c => by
  rw [hs.see (by omega)]
  by_cases h1 : lo - 1 = c
  · rw [if_pos h1, if_pos (by omega)]
  · by_cases h2 : lo ≤ c ∧ c < hi
    · rw [if_neg h1, if_pos h2, if_pos (by omega)]
    · rw [if_neg h1, if_neg h2, if_neg (by omega)]
theorem SpanM.up {h : List (Int × Int)} {lo hi : Int} (hs : SpanM h lo hi) (hle : lo ≤ hi) : SpanM (seeI h hi) lo (hi + 1) := fun c => by
  rw [hs.see (by omega)]
  by_cases h1 : hi = c
  · rw [if_pos h1, if_pos (by omega)]
  · by_cases h2 : lo ≤ c ∧ c < hi
    · rw [if_neg h1, if_pos h2, if_pos (by omega)]
    · rw [if_neg h1, if_neg h2, if_neg (by omega)]
theorem cntTo_in {m : Int} {v : Nat} (h : inB m (v : Int) = true) : cntTo m (v + 1) = cntTo m v + 1 := by simp [cntTo, h]
theorem cntTo_out {m : Int} {v : Nat} (h : inB m (v : Int) = false) : cntTo m (v + 1) = cntTo m v := by simp [cntTo, h]
end Go.Co.N
end

section
namespace Go.Co.N
open Go Go.Co

end Go.Co.N
end

section
set_option maxRecDepth 100000
noncomputable section
namespace Go.Co.N
open Go Go.Co
end Go.Co.N
end
end

section
namespace Go.Co.N
open Go Go.Co

section
variable {t : Tree} {b : Batch} (h : (nextT t b).e = 0)
include h
end
end Go.Co.N
end

section
namespace Go.Co.N
open Go Go.Co

end Go.Co.N
end

section
namespace Go.Co.N
open Go Go.Co

section
variable {t : Tree} {b : Batch} (h : (nextT t b).e = 0)
include h
/-- A key of the new tree: a fresh one, or an old one advanced, of a node below which nobody left. -/
theorem st_of {v : Nat} (hv : v < 85) (h0 : (ofT (nextT t b).t v).2 = 0) : t.Fresh ≤ (ofT (nextT t b).t v).1.Base ∨
    ((ofT t v).2 = 0 ∧ (ofT (nextT t b).t v).1 = ⟨(ofT t v).1.Base, (ofT t v).1.Step + 1⟩ ∧ ∀ x ∈ (nextT t b).left, below v (leaf x.Slot) = false) := by
  obtain ⟨hk, hgk, hm, hfree, hstp⟩ := nx_turn h
  obtain ⟨hr1, hr2, hr3⟩ := nx_room h
  by_cases hi : v < 21
  · rw [ofT_inner _ hi, ofT_inner _ hi, hk]
    rw [turned_get _ _ _ v hi]
    by_cases hin : inB (replaced (nextT t b).left) (v : Int) = true
    · exact .inl (fresh_bounds hfree hi hin).1
    · right
      refine ⟨rfl, kept_at hin, fun x hx => ?_⟩
      rw [replaced_eq, inB_word hi] at hin
      exact Bool.eq_false_iff.2 fun hb => hin (List.any_eq_true.2 ⟨x, hx, hb⟩)
  · obtain ⟨s, rfl⟩ := Nat.exists_eq_add_of_le (show 21 ≤ v by omega)
    have hs : s < 64 := by omega
    obtain ⟨_, _, _, hc⟩ := ofT_ok (nx_good h) hv h0
    rcases hc with ⟨h1, _⟩ | ⟨k, hks, hk64, hon, he⟩
    · omega
    · have : k = s := by omega
      subst this
      rw [he]
      rcases nx_seat h k hk64 with ⟨x, hx, hxs⟩ | ⟨_, ⟨_, _, hz⟩ | ⟨hno, hz⟩⟩
      · obtain ⟨i, s', _, _, _, hs', hent, _⟩ := nx_joined_at h hx
        have : s' = k := by omega
        subst this
        left
        rw [hent]
        show t.Fresh ≤ t.Fresh + cntTo (replaced (nextT t b).left) 21 + i
        omega
      · have := isOn_iff.1 hon
        rw [hz] at this
        exact absurd rfl this
      · right
        have hont : isOn t.Roster k = true := by rw [isOn, ← hz]; exact hon
        have hg := (nextT_ok h).1
        rw [ofT_leaf t hk64, leafAt_on hg hk64 hont, hz, (nx_epoch h).1]
        refine ⟨rfl, ?_, fun x hx => ?_⟩
        · show Key.mk _ _ = Key.mk _ _
          congr 1
          show t.Epoch + 1 - (ent t.Roster k).Since = t.Epoch - (ent t.Roster k).Since + 1
          omega
        · obtain ⟨hw, s', hs', hxs, hon', hwho⟩ := left_at h hx
          rw [hxs]
          have := allN_iff.1 (allN_iff.1 below_leaf k hk64) s' hs'
          simp only [decide_eq_true_eq] at this
          rw [this]
          refine decide_eq_false fun hks => hno ⟨hont, ?_⟩
          rw [hks, hwho]; exact hw
end

/-! ### Derived keys -/
abbrev Names := List (Int × Int)
/-- Of each name the least step. -/
def addD (h : Names) (k : Key) : Names := bif !(mget h k.Base).isSome then mput h k.Base k.Step else bif decide (k.Step < (mget h k.Base).getD 0) then mput h k.Base k.Step else h
/-- Each name that is known is one of these keys. -/
def OfKeys (P : Key → Prop) (h : Names) : Prop := ∀ n s, mget h n = some s → P ⟨n, s⟩
theorem OfKeys.nil (P : Key → Prop) : OfKeys P [] := fun n s h => by simp [mget] at h
theorem OfKeys.put {P : Key → Prop} {h : Names} (hh : OfKeys P h) {k : Key} (hk : P k) : OfKeys P (mput h k.Base k.Step) := fun n s hs => by
  rw [mget_mput] at hs
  by_cases he : k.Base = n
  · rw [if_pos he] at hs
    cases hs; subst he; exact hk
  · rw [if_neg he] at hs; exact hh n s hs
theorem OfKeys.add {P : Key → Prop} {h : Names} (hh : OfKeys P h) {k : Key} (hk : P k) : OfKeys P (addD h k) := by
  unfold addD
  cases (mget h k.Base).isSome with
  | false => exact hh.put hk
  | true => cases decide (k.Step < (mget h k.Base).getD 0) with
    | true => exact hh.put hk
    | false => exact hh
end Go.Co.N
end

section
namespace Go.Co.N
open Go Go.Co

/-! ### The loops -/
/-! ### Who left -/
/-! ### Who joins -/
end Go.Co.N
end

section
namespace Go.Co.N
open Go Go.Co

end Go.Co.N
end

section
set_option maxRecDepth 100000
noncomputable section
namespace Go.Co.N
open Go Go.Co
end Go.Co.N
end
end

section
namespace Go.Co.N
open Go Go.Co

/-! ### Seats' nodes -/
/-! ### Refusals -/
theorem nextT_succ {t : Tree} {b : Batch} (hg : goodTree t = true) (he : t.Epoch ≠ 200) (hfi : fits t.Roster b = 0)
    (hroom : t.Fresh + cntTo (replaced (goneOf t.Roster b.Leaves)) 21 + (b.Joins.length : Int) ≤ 32768) : (nextT t b).e = 0 := by
  obtain ⟨e0, e1, f0, f1, hk, _, hks, hss⟩ := goodTree_iff.1 hg
  have hm := replaced_small (goneOf t.Roster b.Leaves)
  have hc := cntTo_le (replaced (goneOf t.Roster b.Leaves)) 21
  have hfr : free t.Keys t.Fresh (cntTo (replaced (goneOf t.Roster b.Leaves)) 21) = true := by
    unfold free
    have h1 : (1 : Int) ≤ t.Fresh := by omega
    have h2 : t.Fresh ≤ 32768 - cntTo (replaced (goneOf t.Roster b.Leaves)) 21 := by omega
    have h3 : allN 21 (fun v => !(decide (t.Fresh ≤ bas t.Keys v) && decide (bas t.Keys v < t.Fresh + cntTo (replaced (goneOf t.Roster b.Leaves)) 21))) = true := allN_iff.2 fun v hv => by
      have := (hks v hv).1
      have h4 : ¬ t.Fresh ≤ bas t.Keys v := by omega
      simp [h4]
    rw [h3, decide_eq_true h1, decide_eq_true h2]; simp
  have hstp : allN 21 (fun v => inB (replaced (goneOf t.Roster b.Leaves)) v || decide (stp t.Keys v < 255)) = true := allN_iff.2 fun v hv => by
    have := (hks v hv).2
    have : stp t.Keys v < 255 := by omega
    simp [this]
  have ht : (stepTurn t b).2.2 = 0 := by
    unfold stepTurn turn
    rw [hstp, hfr]
    simp [hk, hm.2]
  have hfs : (stepTurn t b).2.1 = t.Fresh + cntTo (replaced (goneOf t.Roster b.Leaves)) 21 := turn_fresh ht
  have hnf : namesFree t.Roster (stepTurn t b).2.1 (b.Joins.length : Int) = true := by
    rw [hfs]
    unfold namesFree
    have h1 : (1 : Int) ≤ t.Fresh + cntTo (replaced (goneOf t.Roster b.Leaves)) 21 := by omega
    have h2 : t.Fresh + cntTo (replaced (goneOf t.Roster b.Leaves)) 21 ≤ 32768 - (b.Joins.length : Int) := by omega
    have h3 : allN 64 (fun s => !(decide (t.Fresh + cntTo (replaced (goneOf t.Roster b.Leaves)) 21 ≤ (ent t.Roster s).Base) && decide ((ent t.Roster s).Base < t.Fresh + cntTo (replaced (goneOf t.Roster b.Leaves)) 21 + (b.Joins.length : Int)))) = true := allN_iff.2 fun s hs => by
      have := (hss s hs).1
      have h4 : ¬ t.Fresh + cntTo (replaced (goneOf t.Roster b.Leaves)) 21 ≤ (ent t.Roster s).Base := by omega
      simp [h4]
    rw [h3, decide_eq_true h1, decide_eq_true h2]; simp
  have s1 : 1 ≤ t.Epoch + 1 := by omega
  have s2 : t.Epoch + 1 ≤ 200 := by omega
  have hmv : (stepMove t b).e = 0 := by
    unfold stepMove move
    rw [hnf]
    simp [hfi, s1, s2, moveGo]
  simp [nextT, hg, he, hfi, ht, hmv]
def whoOf (x : Int) : Int := IntKind.wrap IntKind.i64 (Int.tmod (IntKind.wrap IntKind.u64 x) 256)
theorem whoOf_in (x : Int) : 0 ≤ whoOf x ∧ whoOf x < 256 := tmod_wrap x 256 (by omega) (by omega)
/-- The people that are taken of a list. -/
structure Picked (r : Roster) (on : Bool) (base l : List Int) (h : Names) : Prop where
  nodup : l.Nodup
  mem : ∀ w ∈ l, 0 ≤ w ∧ w < 256 ∧ w ∉ base ∧ (0 ≤ findR r w ↔ on = true)
  seen : ∀ w, (mget h w).getD 0 = 0 ↔ w ∉ base ∧ w ∉ l
def pickS (r : Roster) (on : Bool) (a : List Int × Names) (x : Int) : List Int × Names :=
  bif decide ((mget a.2 (whoOf x)).getD 0 = 0) && (bif on then decide (0 ≤ findR r (whoOf x)) else decide (findR r (whoOf x) < 0)) then (a.1 ++ [whoOf x], mput a.2 (whoOf x) 1) else a
theorem Picked.step {r : Roster} {on : Bool} {base l : List Int} {h : Names} (hp : Picked r on base l h) (x : Int) : Picked r on base (pickS r on (l, h) x).1 (pickS r on (l, h) x).2 := by
  unfold pickS
  cases hc : (decide ((mget h (whoOf x)).getD 0 = 0) && (bif on then decide (0 ≤ findR r (whoOf x)) else decide (findR r (whoOf x) < 0))) with
  | false => exact hp
  | true =>
    simp only [Bool.and_eq_true, decide_eq_true_eq] at hc
    obtain ⟨h1, h2⟩ := hc
    obtain ⟨h3, h4⟩ := (hp.seen _).1 h1
    have hw := whoOf_in x
    refine ⟨?_, fun w hw' => ?_, fun w => ?_⟩
    · show (l ++ [whoOf x]).Nodup
      rw [List.nodup_append]
      exact ⟨hp.nodup, by simp, fun a ha b hb => by simp at hb; subst hb; rintro rfl; exact h4 ha⟩
    · have hw' : w ∈ l ++ [whoOf x] := hw'
      rcases List.mem_append.1 hw' with hw' | hw'
      · exact hp.mem w hw'
      · simp at hw'; subst hw'
        refine ⟨hw.1, hw.2, h3, ?_⟩
        cases on with
        | true => simpa using h2
        | false =>
          have h2 : findR r (whoOf x) < 0 := by simpa using h2
          constructor
          · intro; omega
          · intro h; cases h
    · show (mget (mput h (whoOf x) 1) w).getD 0 = 0 ↔ w ∉ base ∧ w ∉ l ++ [whoOf x]
      rw [mget_mput]
      by_cases he : whoOf x = w
      · rw [if_pos he]
        subst he
        simp
      · rw [if_neg he, hp.seen]
        simp only [List.mem_append, List.mem_singleton, not_or]
        exact ⟨fun ⟨a, b⟩ => ⟨a, b, fun e => he e.symm⟩, fun ⟨a, b, _⟩ => ⟨a, b⟩⟩
theorem Picked.len {r : Roster} {on : Bool} {base l : List Int} {h : Names} (hp : Picked r on base l h) : l.length ≤ 256 := nodup_le 256 l hp.nodup fun x hx => by
  obtain ⟨h1, h2, _⟩ := hp.mem x hx
  exact ⟨h1, h2⟩
theorem Picked.all {r : Roster} {on : Bool} {base : List Int} : ∀ (xs : List Int) (a : List Int × Names), Picked r on base a.1 a.2 → Picked r on base (xs.foldl (pickS r on) a).1 (xs.foldl (pickS r on) a).2
  | [], _, hp => hp
  | x :: xs, (_, _), hp => Picked.all xs _ (hp.step x)
end Go.Co.N
end

section
namespace Go.Co.N
open Go Go.Co

/-! ### The order of leavers does not matter -/
theorem any_perm {α : Type} {p : α → Bool} {l k : List α} (h : l.Perm k) : l.any p = k.any p := by
  apply bool_eq
  rw [List.any_eq_true, List.any_eq_true]
  exact ⟨fun ⟨x, hx, hp⟩ => ⟨x, h.mem_iff.1 hx, hp⟩, fun ⟨x, hx, hp⟩ => ⟨x, h.mem_iff.2 hx, hp⟩⟩
section
variable {t : Tree} {b B : Batch} (h : (nextT t b).e = 0) (hl : B.Leaves.Perm b.Leaves) (hj : B.Joins = b.Joins)
include h hl hj
theorem perm_fits : fits t.Roster B = 0 := by
  obtain ⟨_, _, hfi, _, _, _⟩ := nextT_ok h
  obtain ⟨h1, h2, h3, h4⟩ := fits_ok hfi
  have k1 : askL t.Roster true B.Leaves [] = 0 := by
    obtain ⟨a1, a2⟩ := askL_iff.1 h2
    exact askL_iff.2 ⟨fun w hw => a1 w (hl.mem_iff.1 hw), hl.nodup_iff.2 a2⟩
  have k2 : askL t.Roster false B.Joins B.Leaves = 0 := by
    obtain ⟨a1, a2⟩ := askL_iff.1 h3
    rw [hj]
    exact askL_iff.2 ⟨fun w hw => by
      obtain ⟨c1, c2, c3, c4⟩ := a1 w hw
      exact ⟨c1, c2, fun hm => c3 (hl.mem_iff.1 hm), c4⟩, a2⟩
  have k3 : decide ((B.Joins.length : Int) ≤ 64 - cntW (taken t.Roster) + B.Leaves.length) = true := decide_eq_true (by rw [hj, hl.length_eq]; exact h4)
  unfold fits
  rw [h1, k1, k2, k3]
  rfl
omit h hj in
theorem perm_replaced : replaced (goneOf t.Roster B.Leaves) = replaced (goneOf t.Roster b.Leaves) := by
  have hp : (goneOf t.Roster B.Leaves).Perm (goneOf t.Roster b.Leaves) := hl.map _
  unfold replaced
  congr 1
  exact word_congr 21 fun v _ => any_perm hp
theorem perm_ok : (nextT t B).e = 0 := by
  obtain ⟨hg, hep, _, _, _, _⟩ := nextT_ok h
  have hr := nx_room h
  have hf := nx_fresh h
  rw [nx_left h] at hf
  refine nextT_succ hg (by omega) (perm_fits h hl hj) ?_
  rw [perm_replaced (t := t) hl, hj]
  omega
theorem perm_left : (leaveGo B.Leaves t.Roster).1 = (leaveGo b.Leaves t.Roster).1 := by
  obtain ⟨_, _, hfi, _, _, _⟩ := nextT_ok h
  have h1 := fits_ok hfi
  have h2 := fits_ok (perm_fits h hl hj)
  have hg := goodR_iff.1 h1.1
  have e1 := (leave_all _ _ (canLeave_of h1.2.1) hg).2
  have e2 := (leave_all _ _ (canLeave_of h2.2.1) hg).2
  refine arr_ext fun i h0 h64 => ?_
  obtain ⟨k, rfl⟩ : ∃ k : Nat, i = k := ⟨i.toNat, by omega⟩
  have a1 := e1 k (by omega)
  have a2 := e2 k (by omega)
  have hm : (ent t.Roster k).Who ∈ B.Leaves ↔ (ent t.Roster k).Who ∈ b.Leaves := hl.mem_iff
  simp only [hm] at a2
  exact a2.trans a1.symm
theorem perm_next : (nextT t B).t = (nextT t b).t ∧ (nextT t B).joined = (nextT t b).joined := by
  have hB := perm_ok h hl hj
  obtain ⟨_, _, _, ht, hm, he⟩ := nextT_ok h
  obtain ⟨_, _, _, htB, hmB, heB⟩ := nextT_ok hB
  have ert : stepTurn t B = stepTurn t b := by unfold stepTurn; rw [perm_replaced (t := t) hl]
  have erm : (stepMove t B).r = (stepMove t b).r ∧ (stepMove t B).joined = (stepMove t b).joined := by
    rw [show stepMove t b = _ from (move_joined hm).1, show stepMove t B = _ from (move_joined hmB).1]
    unfold moveGo
    simp only
    rw [perm_left h hl hj, ert, hj]
    exact ⟨rfl, rfl⟩
  rw [he, heB, ert, erm.1, erm.2, hj]
  exact ⟨rfl, rfl⟩
end

/-! ### What two trees tell -/
/-- Who left, seat by seat. -/
def leftL (a b : Roster) : List Int := ((List.range 64).filter fun (s : Nat) => !decide (ent a s = ent b s) && isOn a s).map fun (s : Nat) => (ent a s).Who
/-- Who came, seat by seat. -/
def cameL (a b : Roster) : List Entry := ((List.range 64).filter fun (s : Nat) => !decide (ent a s = ent b s) && isOn b s).map fun (s : Nat) => ent b s
theorem nodup_map {α β : Type} {f : α → β} : ∀ {l : List α}, l.Nodup → (∀ x ∈ l, ∀ y ∈ l, f x = f y → x = y) → (l.map f).Nodup
  | [], _, _ => List.nodup_nil
  | a :: l, h, hi => by
    obtain ⟨h1, h2⟩ := List.nodup_cons.1 h
    rw [List.map_cons, List.nodup_cons]
    refine ⟨fun hm => ?_, nodup_map h2 fun x hx y hy => hi x (List.mem_cons_of_mem _ hx) y (List.mem_cons_of_mem _ hy)⟩
    obtain ⟨x, hx, he⟩ := List.mem_map.1 hm
    have := hi x (List.mem_cons_of_mem _ hx) a (List.mem_cons_self ..) he
    subst this
    exact h1 hx
theorem mem_leftL {a b : Roster} {w : Int} : w ∈ leftL a b ↔ ∃ s : Nat, s < 64 ∧ ent a s ≠ ent b s ∧ isOn a s = true ∧ (ent a s).Who = w := by
  unfold leftL
  simp only [List.mem_map, List.mem_filter, List.mem_range, Bool.and_eq_true, Bool.not_eq_true', decide_eq_false_iff_not]
  exact ⟨fun ⟨s, ⟨h1, h2, h3⟩, h4⟩ => ⟨s, h1, h2, h3, h4⟩, fun ⟨s, h1, h2, h3, h4⟩ => ⟨s, ⟨h1, h2, h3⟩, h4⟩⟩
theorem mem_cameL {a b : Roster} {e : Entry} : e ∈ cameL a b ↔ ∃ s : Nat, s < 64 ∧ ent a s ≠ ent b s ∧ isOn b s = true ∧ ent b s = e := by
  unfold cameL
  simp only [List.mem_map, List.mem_filter, List.mem_range, Bool.and_eq_true, Bool.not_eq_true', decide_eq_false_iff_not]
  exact ⟨fun ⟨s, ⟨h1, h2, h3⟩, h4⟩ => ⟨s, h1, h2, h3, h4⟩, fun ⟨s, h1, h2, h3, h4⟩ => ⟨s, ⟨h1, h2, h3⟩, h4⟩⟩
theorem range_nodup (n : Nat) (p : Nat → Bool) : ((List.range n).filter p).Nodup := List.nodup_range.sublist List.filter_sublist
theorem nodup_leftL {a b : Roster} (h : GoodR a) : (leftL a b).Nodup := nodup_map (range_nodup _ _) fun x hx y hy he => by
  simp only [List.mem_filter, List.mem_range, Bool.and_eq_true] at hx hy
  exact h.who x y hx.1 hy.1 hx.2.2 hy.2.2 he
theorem nodup_cameL {a b : Roster} (h : GoodR b) : (cameL a b).Nodup := nodup_map (range_nodup _ _) fun x hx y hy he => by
  simp only [List.mem_filter, List.mem_range, Bool.and_eq_true] at hx hy
  exact h.base x y hx.1 hy.1 hx.2.2 hy.2.2 (by rw [he])

section
variable {t : Tree} {b : Batch} (h : (nextT t b).e = 0)
include h
theorem nx_base {k : Nat} (hk : k < 64) : (ent t.Roster k).Base < t.Fresh := (((goodTree_iff.1 (nextT_ok h).1).2.2.2.2.2.2.2) k hk).1
theorem nx_new {x : Co.Seat} (hx : x ∈ (nextT t b).joined) : ∃ s : Nat, s < 64 ∧ x.Slot = s ∧ ent t.Roster s ≠ ent (nextT t b).t.Roster s ∧ t.Fresh ≤ (ent (nextT t b).t.Roster s).Base := by
  obtain ⟨i, s, h1, h2, hs, h3, h4, _⟩ := nx_joined_at h hx
  have hb := nx_base h hs
  have hc := cntTo_le (replaced (nextT t b).left) 21
  refine ⟨s, hs, h3, fun he => ?_, by rw [h4]; simp only; omega⟩
  rw [he, h4] at hb
  simp only at hb
  omega
theorem left_perm : (leftL t.Roster (nextT t b).t.Roster).Perm b.Leaves := by
  have hg := goodR_iff.1 (goodTree_iff.1 (nextT_ok h).1).2.2.2.2.2.1
  refine (List.perm_ext_iff_of_nodup (nodup_leftL hg) (nx_leaves h).1).2 fun w => ?_
  rw [mem_leftL]
  constructor
  · rintro ⟨s, hs, hne, hon, rfl⟩
    rcases nx_seat h s hs with ⟨x, hx, hxs⟩ | ⟨_, ⟨_, hm, _⟩ | ⟨_, he⟩⟩
    · obtain ⟨i, k, _, _, hk, h3, _, h5⟩ := nx_joined_at h hx
      have : k = s := by omega
      subst this
      exact h5 hon
    · exact hm
    · exact absurd he.symm hne
  · intro hw
    obtain ⟨s, hs, _, hon, hwho⟩ := (nx_leaves h).2 w hw
    refine ⟨s, hs, fun he => ?_, hon, hwho⟩
    rcases nx_seat h s hs with ⟨x, hx, hxs⟩ | ⟨_, ⟨_, _, hz⟩ | ⟨hn, _⟩⟩
    · obtain ⟨k, hk, h3, h4, _⟩ := nx_new h hx
      have : k = s := by omega
      subst this
      exact h4 he
    · rw [hz] at he
      exact isOn_iff.1 hon (by rw [he])
    · exact hn ⟨hon, by rw [hwho]; exact hw⟩
/-- The joiners' entries, in their order. -/
def joinE (t : Tree) (b : Batch) : List Entry := (List.range b.Joins.length).map fun (i : Nat) => ⟨b.Joins.getD i 0, t.Fresh + cntTo (replaced (nextT t b).left) 21 + i, t.Epoch + 1⟩
omit h in
theorem mem_joinE {e : Entry} : e ∈ joinE t b ↔ ∃ i : Nat, i < b.Joins.length ∧ e = ⟨b.Joins.getD i 0, t.Fresh + cntTo (replaced (nextT t b).left) 21 + i, t.Epoch + 1⟩ := by
  unfold joinE
  simp only [List.mem_map, List.mem_range]
  exact ⟨fun ⟨i, h1, h2⟩ => ⟨i, h1, h2.symm⟩, fun ⟨i, h1, h2⟩ => ⟨i, h1, h2.symm⟩⟩
omit h in
theorem joinE_lt : (joinE t b).Pairwise fun x y => x.Base < y.Base := by
  unfold joinE
  refine List.Pairwise.map _ (fun i j hij => ?_) List.pairwise_lt_range
  show _ + (i : Int) < _ + (j : Int)
  omega
theorem came_perm : (cameL t.Roster (nextT t b).t.Roster).Perm (joinE t b) := by
  have hR := nx_roster h
  refine (List.perm_ext_iff_of_nodup (nodup_cameL hR) (joinE_lt.imp fun hlt he => by subst he; omega)).2 fun e => ?_
  rw [mem_cameL, mem_joinE]
  constructor
  · rintro ⟨s, hs, hne, hon, rfl⟩
    rcases nx_seat h s hs with ⟨x, hx, hxs⟩ | ⟨_, ⟨_, _, hz⟩ | ⟨_, he⟩⟩
    · obtain ⟨i, k, h1, h2, hk, h3, h4, _⟩ := nx_joined_at h hx
      have : k = s := by omega
      subst this
      refine ⟨i, h2, ?_⟩
      rw [h4, List.getD_eq_getElem?_getD, h1]
      rfl
    · exact absurd (by rw [hz]) (isOn_iff.1 hon)
    · exact absurd he.symm hne
  · rintro ⟨i, hi, rfl⟩
    obtain ⟨s, hs, h1, h2, h3⟩ := (nx_moved h).1 i b.Joins[i] (List.getElem?_eq_getElem hi)
    have hx := List.mem_of_getElem? h1
    obtain ⟨k, hk, h4, h5, h6⟩ := nx_new h hx
    have : k = s := by simp only at h4; omega
    subst this
    refine ⟨k, hk, h5, isOn_iff.2 ?_, ?_⟩
    · have := (nx_room h).2.1; omega
    · rw [h2, List.getD_eq_getElem?_getD, List.getElem?_eq_getElem hi]
      rfl
omit h in
theorem joinE_who : (joinE t b).map (·.Who) = b.Joins := by
  apply List.ext_getElem
  · simp [joinE]
  · intro i h1 h2
    simp [joinE, List.getElem?_eq_getElem h2]
/-- However those who came are sorted by their names: it is the batch's order. -/
theorem sorted_joins {l : List Entry} (hp : l.Perm (cameL t.Roster (nextT t b).t.Roster)) (hs : l.Pairwise fun x y => x.Base ≤ y.Base) : l.map (·.Who) = b.Joins := by
  have hq := hp.trans (came_perm h)
  have : l = joinE t b := by
    refine List.Perm.eq_of_pairwise (le := fun x y => x.Base ≤ y.Base) (fun x y hx hy h1 h2 => ?_) hs (joinE_lt.imp fun h => by omega) hq
    obtain ⟨i, hi, rfl⟩ := mem_joinE.1 (hq.mem_iff.1 hx)
    obtain ⟨j, hj, rfl⟩ := mem_joinE.1 hy
    simp only at h1 h2
    have : i = j := by omega
    subst this
    rfl
  rw [this, joinE_who]
/-- The batch that the trees tell leads there. -/
theorem came_leads {B : Batch} {l : List Entry} (h1 : B.Leaves = leftL t.Roster (nextT t b).t.Roster) (h2 : B.Joins = l.map (·.Who)) (hp : l.Perm (cameL t.Roster (nextT t b).t.Roster)) (hs : l.Pairwise fun x y => x.Base ≤ y.Base) :
    (nextT t B).e = 0 ∧ (nextT t B).t = (nextT t b).t := by
  have hl : B.Leaves.Perm b.Leaves := by rw [h1]; exact left_perm h
  have hj : B.Joins = b.Joins := by rw [h2]; exact sorted_joins h hp hs
  exact ⟨perm_ok h hl hj, (perm_next h hl hj).1⟩
end
end Go.Co.N
end

section
namespace Go.Co
open Go.RowKit Go.Sort Go.Proofs Go.Shelf

/-- A sort: the function, the comparing function, the elements' kind, what the comparing function answers. -/
structure SortD where
  f : Nat
  g : Nat
  t : Ty
  cf : t.den → t.den → Int
/-- What Go's sort makes of a list. -/
def sortL {α : Type} [Inhabited α] (cf : α → α → Int) (l : List α) : List α := (pdq (ltOf cf) l.toArray 0 l.length (Lib.bitLen l.length) true true).toList
def findD : List SortD → Nat → Option SortD
  | [], _ => none
  | d :: r, n => match Nat.beq n d.f with | true => some d | false => findD r n
section
variable {R : Type}
/-- A call of a sort, else another handler's. -/
def sortH (D : List SortD) (inl : (R : Type) → Nat → List AV → Mem → Nat → KO R → Option R) (R : Type) (f : Nat) (vs : List AV) (m : Mem) (nx : Nat) (K : KO R) : Option R :=
  match findD D f with
  | none => inl R f vs m nx K
  | some d => match vs with
    | [.sl b, .fn g []] => match Nat.beq g d.g, m b with
      | true, .slab u xs => match cast? (.list u) (.list d.t) xs with
        | some xs => K (.tup .nil) (m.put b (.slab d.t (sortL d.cf xs))) nx
        | none => none
      | _, _ => none
    | [.ssl b lo hi, .fn g []] => match Nat.beq g d.g, m b with
      | true, .slab u xs => match cast? (.list u) (.list d.t) xs with
        | some xs => guardK (decide (0 ≤ lo) && decide (lo ≤ hi) && decide (hi ≤ (List.length xs : Int))) (K (.tup .nil) (m.put b (.slab d.t (List.append (List.take lo.toNat xs) (List.append (sortL d.cf (cutL lo hi xs)) (List.drop hi.toNat xs))))) nx)
        | none => none
      | _, _ => none
    | _ => none
end

/-! ### Cells of a row -/
theorem flat_get {α : Type} {k : Nat} : ∀ (l : List (List α)) (t : Nat), (∀ c ∈ l, c.length = k) → t < l.length * k → l.flatten[t]? = (l[t / k]?).bind fun c => c[t % k]?
  | [], t, _, h => by simp at h
  | c :: l, t, hl, h => by
    have hc := hl c (by simp)
    have k0 : 0 < k := by
      rcases Nat.eq_zero_or_pos k with h0 | h0
      · subst h0; simp at h
      · exact h0
    rw [List.flatten_cons]
    by_cases h1 : t < k
    · rw [List.getElem?_append_left (by omega), Nat.div_eq_of_lt h1, Nat.mod_eq_of_lt h1]; rfl
    · have h2 : t - k < l.length * k := by rw [List.length_cons, Nat.add_mul, Nat.one_mul] at h; omega
      rw [List.getElem?_append_right (by omega), hc, flat_get l (t - k) (fun c hc => hl c (by simp [hc])) h2]
      have e1 : t / k = (t - k) / k + 1 := Nat.div_eq_sub_div k0 (by omega)
      have e2 : t % k = (t - k) % k := Nat.mod_eq_sub_mod (by omega)
      rw [e1, e2, List.getElem?_cons_succ]
theorem flatK_list {α : Type} [Inhabited α] {enc : α → List Value} {k : Nat} (hk : ∀ x, (enc x).length = k) (l : List α) : (flatK enc k l.toArray).toList = (l.map enc).flatten := by
  have hl : ∀ c ∈ l.map enc, c.length = k := fun c hc => by
    obtain ⟨x, _, rfl⟩ := List.mem_map.1 hc
    exact hk x
  apply List.ext_getElem?
  intro t
  by_cases ht : t < l.length * k
  · have h1 : t < (flatK enc k l.toArray).size := by rw [size_flatK]; simpa using ht
    have h2 := get_flatK enc k l.toArray t (by simpa using ht)
    rw [getElem!_pos _ t h1] at h2
    have k0 : 0 < k := by
      rcases Nat.eq_zero_or_pos k with h0 | h0
      · subst h0; simp at ht
      · exact h0
    have h3 : t / k < l.length := Nat.div_lt_of_lt_mul (by rwa [Nat.mul_comm] at ht)
    have h4 : t % k < (enc l[t / k]).length := by rw [hk]; exact Nat.mod_lt _ k0
    rw [flat_get _ t hl (by simpa using ht), Array.getElem?_toList, Array.getElem?_eq_getElem h1, h2]
    have e1 : (l.toArray)[t / k]! = l[t / k] := by rw [getElem!_pos l.toArray (t / k) (by simpa using h3)]; simp
    rw [e1, getElem!_pos (enc l[t / k]) (t % k) h4, List.getElem?_map, List.getElem?_eq_getElem h3]
    simp [List.getElem?_eq_getElem h4]
  · have h5 : (l.map enc).flatten.length = l.length * k := by rw [flatten_len hl]; simp
    rw [List.getElem?_eq_none (by rw [Array.length_toList, size_flatK]; simpa using ht), List.getElem?_eq_none (by rw [h5]; omega)]

/-! ### A sort's own contract -/
/-- The program's function sorts so. -/
structure SortOK (P : Program) (d : SortD) : Prop where
  fn : FnOK P d.f
  nolist : d.t.lists = false
  pos : 1 ≤ d.t.bytes
  run : ∀ (w : World) (im : Nat → Prop) (blk off cap : Nat) (cs : Array Value) (el : TypeId) (l : List d.t.den) (css : List (List Value)) (pre post : List Value), w.heap[blk]? = some (.cells cs el (0, 0)) → cs.toList = pre ++ css.flatten ++ post → pre.length = off →
    All2 (Rd w im d.t) l css → l.length < 4611686018427387904 →
    Calls P d.f #[.slice (some ⟨blk, off, none⟩) l.length cap, .func (.func d.g) #[] #[]] w fun e w' => e = .returned (.tuple #[]) ∧ ∃ (css' : List (List Value)) (w1 : World), All2 (Rd w im d.t) (sortL d.cf l) css' ∧ w1.os = w.os ∧ w1.tape = w.tape ∧ w1.output = w.output ∧
      w1.heap.size = w.heap.size ∧ (∀ j, j ≠ blk → w1.heap[j]? = w.heap[j]?) ∧ (∃ cs', w1.heap[blk]? = some (.cells cs' el (0, 0)) ∧ cs'.toList = pre ++ css'.flatten ++ post) ∧ Blw w1.heap.size w1 w'
  none : ∀ (w : World) (p : Option Addr) (cap : Nat), Calls P d.f #[.slice p 0 cap, .func (.func d.g) #[] #[]] w fun e w' => e = .returned (.tuple #[]) ∧ Blw w.heap.size w w'
  len : ∀ l, (sortL d.cf l).length = l.length
theorem len_sortL {α : Type} [Inhabited α] {cf : α → α → Int} (hO : SWO (ltOf cf)) (l : List α) : (sortL cf l).length = l.length := by
  have h := (pdq_sorts (ltOf cf) hO l.toArray 0 l.length (Lib.bitLen l.length) true true (Nat.zero_le _) (by simp) (Or.inl rfl)).1.1
  unfold sortL
  rw [Array.length_toList, h]; simp
theorem perm_sortL {α : Type} [Inhabited α] {cf : α → α → Int} (hO : SWO (ltOf cf)) (l : List α) : (sortL cf l).Perm l := by
  have h := (pdq_sorts (ltOf cf) hO l.toArray 0 l.length (Lib.bitLen l.length) true true (Nat.zero_le _) (by simp) (Or.inl rfl)).1
  have h2 := h.2.2
  have e1 : (pdq (ltOf cf) l.toArray 0 l.length (Lib.bitLen l.length) true true).extract 0 l.length = pdq (ltOf cf) l.toArray 0 l.length (Lib.bitLen l.length) true true := by
    have : l.length = (pdq (ltOf cf) l.toArray 0 l.length (Lib.bitLen l.length) true true).size := by rw [h.1]; simp
    rw [Array.extract_eq_self_of_le (Nat.le_of_eq this.symm)]
  have e2 : l.toArray.extract 0 l.length = l.toArray := Array.extract_eq_self_of_le (by simp)
  rw [e1, e2] at h2
  exact h2
theorem sorted_sortL {α : Type} [Inhabited α] {cf : α → α → Int} (hO : SWO (ltOf cf)) (l : List α) : (sortL cf l).Pairwise fun x y => ltOf cf y x = false := by
  have hs := pdq_sorts (ltOf cf) hO l.toArray 0 l.length (Lib.bitLen l.length) true true (Nat.zero_le _) (by simp) (Or.inl rfl)
  have hz : (pdq (ltOf cf) l.toArray 0 l.length (Lib.bitLen l.length) true true).size = l.length := by rw [hs.1.1]; simp
  rw [List.pairwise_iff_getElem]
  intro i j hi hj hij
  unfold sortL at hi hj ⊢
  rw [Array.length_toList] at hi hj
  have := hs.2 i j (Nat.zero_le _) hij (by omega)
  generalize pdq (ltOf cf) l.toArray 0 l.length (Lib.bitLen l.length) true true = A at *
  rw [getElem!_pos A i hi, getElem!_pos A j hj] at this
  simpa using this
theorem All2.of_map {α β : Type} {R : α → β → Prop} {f : α → β} : ∀ {l : List α}, (∀ x ∈ l, R x (f x)) → All2 R l (l.map f)
  | [], _ => trivial
  | x :: l, h => ⟨h x (by simp), All2.of_map fun y hy => h y (by simp [hy])⟩
theorem All2.eq_map {α β : Type} {R : α → β → Prop} {f : α → β} (hf : ∀ x y, R x y → y = f x) : ∀ {l : List α} {r : List β}, All2 R l r → r = l.map f
  | [], [], _ => rfl
  | [], _ :: _, h => h.elim
  | _ :: _, [], h => h.elim
  | x :: l, y :: r, h => by rw [hf x y h.1, All2.eq_map hf h.2]; rfl
theorem blw_grow (w : World) (os : Array Obj) : Blw w.heap.size w (grow w os) :=
  Blw.of ⟨rfl, rfl, rfl, by simp, fun k hk => by simp [grow, Array.getElem?_append, hk]⟩
theorem put_list {F c : Array Value} {pre mid post : List Value} {off : Nat} (hc : c.toList = pre ++ mid ++ post) (hp : pre.length = off) (hF : F.size = mid.length) : (putCells id off F c).toList = pre ++ F.toList ++ post := by
  subst hp
  apply List.ext_getElem?
  intro i
  have hi : c[i]? = (pre ++ (mid ++ post))[i]? := by rw [← Array.getElem?_toList, hc, List.append_assoc]
  unfold putCells
  rw [Array.getElem?_toList, Array.getElem?_mapIdx, hi, List.append_assoc]
  by_cases h1 : i < pre.length
  · rw [List.getElem?_append_left h1, List.getElem?_append_left h1]
    have : ¬ (pre.length ≤ i ∧ i < pre.length + F.size) := by omega
    simp [this]
  · obtain ⟨j, rfl⟩ : ∃ j, i = pre.length + j := ⟨i - pre.length, by omega⟩
    have e0 : pre.length + j - pre.length = j := by omega
    rw [List.getElem?_append_right (l₁ := pre) (l₂ := mid ++ post) (by omega), List.getElem?_append_right (l₁ := pre) (l₂ := F.toList ++ post) (by omega), e0]
    by_cases h2 : j < F.size
    · have h2' : j < mid.length := by omega
      have h2'' : j < F.toList.length := by simpa using h2
      rw [List.getElem?_append_left h2', List.getElem?_append_left h2'', List.getElem?_eq_getElem h2', List.getElem?_eq_getElem h2'']
      have h3 : pre.length ≤ pre.length + j ∧ pre.length + j < pre.length + F.size := by omega
      simp only [Option.map_some, if_pos h3, id]
      rw [getElem!_pos F j h2]; simp
    · have h2' : mid.length ≤ j := by omega
      have h2'' : F.toList.length ≤ j := by simpa using h2
      rw [List.getElem?_append_right h2', List.getElem?_append_right h2'']
      have h3 : ¬ (pre.length ≤ pre.length + j ∧ pre.length + j < pre.length + F.size) := by omega
      have e : j - F.toList.length = j - mid.length := by simp; omega
      rw [e]
      simp only [if_neg h3, Option.map_id']
/-- What the library's own law on the sort gives. -/
theorem SortOK.of {P : Program} {ρ : Go.Shelf.Ren} (L : SlLaysF0.n6 P ρ) {d : SortD} (hf : d.f = ρ.f 6) (hfn : FnOK P d.f) (hnl : d.t.lists = false) (hpos : 1 ≤ d.t.bytes) (aE : ∀ w, (isAgg (ρ.t 24)).run P w = .ok true w) (zE : ∀ w, (Go.sizeOf (ρ.t 24)).run P w = .ok d.t.size w)
    (enc : d.t.den → List Value) (hk : ∀ x, (enc x).length = d.t.size) (h1 : ∀ x, ∀ v ∈ enc x, v.oneCell' = true) (hrd : ∀ w im x c, Rd w im d.t x c → c = enc x) (hO : SWO (ltOf d.cf)) (hg : FnOK P d.g)
    (hcmp : ∀ blk off size w, CmpLays P d.g #[] enc d.t.size d.cf blk off size w) : SortOK P d := by
  refine ⟨hfn, hnl, hpos, ?_, fun w p cap => by rw [hf]; exact (AnyF.slices_SortFunc_none L p cap _ w).mono fun e w' ⟨h1, h2⟩ => ⟨h1, by rw [h2]; exact Blw.refl _ _⟩, len_sortL hO⟩
  intro w im blk off cap cs el l css pre post hb hcs hpre hall hlen
  have hcss : css = l.map enc := All2.eq_map (fun x c h => hrd w im x c h) hall
  have hfl := flatK_list hk l
  have hF : (flatK enc d.t.size l.toArray).toList = css.flatten := by rw [hfl, hcss]
  have hFs : (flatK enc d.t.size l.toArray).size = css.flatten.length := by rw [← hF]; simp
  have hH : HoldsK enc d.t.size w blk off l.toArray := by
    intro j hj
    constructor
    · have h2 : cs.toList[off + j]? = css.flatten[j]? := by
        rw [hcs, List.append_assoc, List.getElem?_append_right (by omega), List.getElem?_append_left (by omega)]
        congr 1; omega
      rw [← hF, Array.getElem?_toList, Array.getElem?_toList, Array.getElem?_eq_getElem hj] at h2
      simp only [World.cell?, hb, h2, id]
      rw [getElem!_pos (flatK enc d.t.size l.toArray) j hj]
      rfl
    · simp [World.frozen?, hb]
  have hblk : blk < w.heap.size := (Array.getElem?_eq_some_iff.1 hb).1
  have eg : ∀ args w, (callFunc d.g args).run P w = .ok (.enter d.g args) w := fun args w => run_callFunc hg args w
  have hmain := AnyQ.slices_SortFunc_eq L d.t.size aE zE enc hk h1 d.cf hO d.g #[] blk off cap l.toArray w eg (hcmp _ _ _ _) hH hblk (by simpa using hlen)
  rw [hf]
  have hsz : l.toArray.size = l.length := by simp
  rw [hsz] at hmain
  refine hmain.mono ?_
  rintro e w' ⟨rfl, n, os, rfl⟩
  refine ⟨rfl, (sortL d.cf l).map enc, putRowK enc d.t.size (Sort.ahead w n) blk off (sortL d.cf l).toArray, ?_, rfl, rfl, rfl, ?_, ?_, ?_, ?_⟩
  · refine All2.of_map fun x hx => ?_
    have hx2 := (perm_sortL hO l).mem_iff.1 hx
    obtain ⟨i, hi⟩ := List.getElem?_of_mem hx2
    obtain ⟨c, _, hr⟩ := hall.get i x hi
    rwa [hrd _ _ _ _ hr] at hr
  · simp [putRowK, putRow, mapBlock, Sort.ahead]
  · intro j hj
    simp only [putRowK, putRow, mapBlock, Sort.ahead, Array.getElem?_modify]
    rw [if_neg (fun h => hj h.symm)]
  · refine ⟨putCells id off (flatK enc d.t.size (sortL d.cf l).toArray) cs, ?_, ?_⟩
    · simp only [putRowK, putRow, mapBlock, Sort.ahead, Array.getElem?_modify, if_true, hb]
      rfl
    · rw [put_list hcs hpre ?_, flatK_list hk]
      have : (flatK enc d.t.size (sortL d.cf l).toArray).size = (flatK enc d.t.size l.toArray).size := by rw [size_flatK, size_flatK]; simp [len_sortL hO]
      rw [this, hFs]
  · have : sortWorldK enc d.t.size w blk off n (pdq (ltOf d.cf) l.toArray 0 l.length (Lib.bitLen l.length) true true) os = grow (putRowK enc d.t.size (Sort.ahead w n) blk off (sortL d.cf l).toArray) os := by
      unfold sortWorldK sortL
      simp
    rw [this]
    exact blw_grow _ _

/-! ### The handler -/
theorem findD_ok : ∀ {D : List SortD} {f : Nat} {d : SortD}, findD D f = some d → d ∈ D ∧ d.f = f
  | e :: D, f, d, h => by
    unfold findD at h
    split at h
    · rename_i hb
      cases h
      exact ⟨by simp, (Nat.eq_of_beq_eq_true hb).symm⟩
    · obtain ⟨h1, h2⟩ := findD_ok h
      exact ⟨by simp [h1], h2⟩
theorem Mem.put_self (m : Mem) (b : Nat) : m.put b (m b) = m := by
  funext i
  unfold Mem.put
  split
  · rename_i h; rw [Nat.eq_of_beq_eq_true h]
  · rfl
theorem sortL_nil {α : Type} [Inhabited α] {cf : α → α → Int} (hl : ∀ l : List α, (sortL cf l).length = l.length) : sortL cf [] = [] := List.length_eq_zero_iff.1 (hl [])
theorem cut_parts {α : Type} (l : List α) (lo hi : Nat) (h : lo ≤ hi) : l = l.take lo ++ ((l.take hi).drop lo ++ l.drop hi) := by
  rw [← List.append_assoc]
  have : l.take lo ++ (l.take hi).drop lo = l.take hi := by
    have h1 : l.take lo = (l.take hi).take lo := by rw [List.take_take, Nat.min_eq_left h]
    rw [h1, List.take_append_drop]
  rw [this, List.take_append_drop]
/-- A row's part is sorted. -/
theorem sort_row {P : Program} {C : Ctx} {E : Env} {m : Mem} {U : Nat → Prop} {d : SortD} (hS : SortOK P d) (hm : MR C E m U) {b nx : Nat} {xs : List d.t.den} (hb : m b = .slab d.t xs) (lo hi : Nat) (h1 : lo ≤ hi) (h2 : hi ≤ xs.length) (z : Value)
    (hz : (hi = lo ∧ ∃ p c, z = .slice p 0 c) ∨ ∃ k cap len c, lo < hi ∧ E.ρ b = some (.slab k d.t cap len) ∧ z = .slice (some ⟨k, lo * d.t.size, none⟩) (hi - lo) c) :
    Calls P d.f #[z, .func (.func d.g) #[] #[]] E.w fun e w' => ∃ v, e = .returned v ∧ Res C E m U nx nx (.tup .nil) (m.put b (.slab d.t (xs.take lo ++ (sortL d.cf ((xs.take hi).drop lo) ++ xs.drop hi)))) v w' := by
  have hlen := hS.len
  rcases hz with ⟨rfl, p, c, rfl⟩ | ⟨k, cap, len, c, hlt, hρ, rfl⟩
  · refine (hS.none E.w p c).mono ?_
    rintro e w' ⟨rfl, hw⟩
    have e0 : (xs.take hi).drop hi = [] := List.drop_eq_nil_of_le (by rw [List.length_take]; omega)
    rw [e0, sortL_nil hlen, List.nil_append, List.take_append_drop, ← hb, Mem.put_self]
    obtain ⟨g1, g2⟩ := hm.grow' hw
    refine ⟨_, rfl, { E with w := w' }, rfl, g2, g1.widen fun _ h => .inl h, ⟨fun j hj _ => hw.block j hj, hw.size, fun j hj => .inl hj, fun j hj => .inl hj⟩, [], rfl, rfl⟩
  · have hr := hm.blocks b
    rw [hb] at hr
    obtain ⟨hby, hr⟩ := hr
    rcases hr with ⟨hn, _⟩ | ⟨k', cap', cs, el, css, rest, hρ', hheap, hcs, hle, hcm, hall, hcl⟩
    · rw [hρ] at hn; cases hn
    rw [hρ] at hρ'
    cases hρ'
    have hlens := hall.lens
    have hcss : css.length = xs.length := hall.length.symm
    have hpre : (css.take lo).flatten.length = lo * d.t.size := by
      rw [flatten_len (n := d.t.size) fun c hc => hlens c (List.mem_of_mem_take hc), List.length_take]
      congr 1; omega
    have hsplit : cs.toList = (css.take lo).flatten ++ ((css.take hi).drop lo).flatten ++ ((css.drop hi).flatten ++ rest) := by
      rw [hcl]
      conv => lhs; rw [cut_parts css lo hi h1]
      simp only [List.flatten_append, List.append_assoc]
    have hmid : All2 (Rd E.w E.imm d.t) ((xs.take hi).drop lo) ((css.take hi).drop lo) := (hall.take hi).drop lo
    have hml : ((xs.take hi).drop lo).length = hi - lo := by rw [List.length_drop, List.length_take]; omega
    have hpos := hS.pos
    have hx62 : xs.length ≤ top := Nat.le_trans (Nat.le_mul_of_pos_right _ hpos) hby
    have htop : top = 140737488355328 := rfl
    have hrun := hS.run E.w E.imm k (lo * d.t.size) c cs el _ _ _ _ hheap hsplit hpre hmid (by rw [hml]; omega)
    rw [hml] at hrun
    refine hrun.mono ?_
    rintro e w' ⟨rfl, css', w1, hall', ho, ht, hout, hsz, hoth, ⟨cs', hheap', hcs'⟩, hgrow⟩
    have hl' : live (m b) := by rw [hb]; trivial
    have hnewl : (xs.take lo ++ (sortL d.cf ((xs.take hi).drop lo) ++ xs.drop hi)).length = xs.length := by
      rw [List.length_append, List.length_append, hlen, hml, List.length_take, List.length_drop]; omega
    have hRM : Ext E { E with w := w1 } → RM { E with w := w1 } b (.slab d.t (xs.take lo ++ (sortL d.cf ((xs.take hi).drop lo) ++ xs.drop hi))) := fun hx => by
      refine ⟨by rw [hnewl]; exact hby, .inr ⟨k, cap, cs', el, css.take lo ++ (css' ++ css.drop hi), rest, by rw [hnewl]; exact hρ, hheap', ?_, by rw [hnewl]; exact hle, hcm, ?_, ?_⟩⟩
      · have h3 : css'.flatten.length = ((css.take hi).drop lo).flatten.length := by
          rw [flatten_len (n := d.t.size) hall'.lens, flatten_len (n := d.t.size) hmid.lens, ← hall'.length, ← hmid.length, hlen]
        have h4 := congrArg List.length hsplit
        have h5 := congrArg List.length hcs'
        simp only [List.length_append, Array.length_toList] at h4 h5
        omega
      · exact ((hall.take lo).append (hall'.append (hall.drop hi))).mono fun _ _ h => h.ext hx
      · rw [hcs']
        simp only [List.flatten_append, List.append_assoc]
    obtain ⟨g1, g2⟩ := hm.write hl' hρ rfl ho ht hout hsz hoth (.slab d.t (xs.take lo ++ (sortL d.cf ((xs.take hi).drop lo) ++ xs.drop hi))) hRM
    obtain ⟨g3, g4⟩ := g1.grow' hgrow
    have hf1 : Frm E m { E with w := w1 } (m.put b (.slab d.t (xs.take lo ++ (sortL d.cf ((xs.take hi).drop lo) ++ xs.drop hi)))) :=
      ⟨fun j hj hno => hoth j (fun e => hno ⟨b, _, hl', hρ, by rw [e]; rfl⟩), Nat.le_of_eq hsz.symm, fun j hj => .inl (owns_put hl' hj), fun j hj => .inl hj⟩
    have hf2 : Frm { E with w := w1 } (m.put b (.slab d.t (xs.take lo ++ (sortL d.cf ((xs.take hi).drop lo) ++ xs.drop hi)))) { E with w := w' } (m.put b (.slab d.t (xs.take lo ++ (sortL d.cf ((xs.take hi).drop lo) ++ xs.drop hi)))) :=
      ⟨fun j hj _ => hgrow.block j hj, hgrow.size, fun j hj => .inl hj, fun j hj => .inl hj⟩
    exact ⟨_, rfl, { E with w := w' }, rfl, g2.trans g4, g3.widen fun _ h => .inl h, hf1.trans hf2, [], rfl, rfl⟩
theorem fn_val {E : Env} {g : Nat} {z : Value} (h : RV E (.fn g []) z) : z = .func (.func g) #[] #[] := by
  obtain ⟨cs, rfl, vs, hv, rfl⟩ := h
  cases vs with
  | nil => rfl
  | cons _ _ => exact hv.elim
theorem sortH_ok {P : Program} {C : Ctx} {D : List SortD} {inl : (R : Type) → Nat → List AV → Mem → Nat → KO R → Option R} (hD : ∀ d ∈ D, SortOK P d) (hi : InlOK P C inl) : InlOK P C (sortH D inl) := by
  intro R f vs m nx K y h
  unfold sortH at h
  split at h
  · exact hi R f vs m nx K y h
  rename_i d hd
  obtain ⟨hdm, rfl⟩ := findD_ok hd
  have hS := hD d hdm
  split at h
  · rename_i b g
    split at h
    · rename_i u xs hg hmb
      split at h
      · rename_i ys hc
        obtain ⟨he, hx⟩ := cast?_some hc
        cases he
        cases hx
        have hg := Nat.eq_of_beq_eq_true hg
        subst hg
        refine ⟨hS.fn, _, _, _, Nat.le_refl _, h, fun E zs U hv hm _ => ?_⟩
        match zs, hv with
        | [z1, z2], ⟨h1, h2, _⟩ =>
          obtain rfl := fn_val h2
          have hfull : xs.take 0 ++ (sortL d.cf ((xs.take xs.length).drop 0) ++ xs.drop xs.length) = sortL d.cf xs := by simp
          obtain ⟨cs, rfl, hc⟩ := h1
          have hz : (xs.length = 0 ∧ ∃ p c, pk (AV.sl b).isAgg cs = .slice p 0 c) ∨ ∃ k cap len c, 0 < xs.length ∧ E.ρ b = some (.slab k d.t cap len) ∧ pk (AV.sl b).isAgg cs = .slice (some ⟨k, 0 * d.t.size, none⟩) (xs.length - 0) c := by
            have hr := hm.blocks b
            rw [hmb] at hr
            obtain ⟨_, hr⟩ := hr
            rcases hc with ⟨t, hn, rfl⟩ | ⟨k, t, cap, len, hρ, rfl⟩
            · rcases hr with ⟨_, rfl⟩ | ⟨k', cap', cs, el, css, rest, hρ', _⟩
              · exact .inl ⟨rfl, none, 0, rfl⟩
              · rw [hn] at hρ'; cases hρ'
            · rcases hr with ⟨hn, rfl⟩ | ⟨k', cap', cs, el, css, rest, hρ', _⟩
              · rw [hρ] at hn; cases hn
              · rw [hρ] at hρ'
                cases hρ'
                by_cases h0 : xs.length = 0
                · exact .inl ⟨h0, some ⟨k, 0, none⟩, cap, by rw [h0]; rfl⟩
                · exact .inr ⟨k, cap, xs.length, cap, by omega, hρ, by rw [Nat.zero_mul]; rfl⟩
          have := sort_row (nx := nx) hS hm hmb 0 xs.length (Nat.zero_le _) (Nat.le_refl _) (pk (AV.sl b).isAgg cs) hz
          rw [hfull] at this
          exact this
        | [], hv => exact hv.elim
        | [_], hv => exact hv.2.elim
        | _ :: _ :: _ :: _, hv => exact hv.2.2.elim
      · cases h
    · cases h
  · rename_i b lo hi2 g
    split at h
    · rename_i u xs hg hmb
      split at h
      · rename_i ys hc
        obtain ⟨he, hx⟩ := cast?_some hc
        cases he
        cases hx
        have hg := Nat.eq_of_beq_eq_true hg
        subst hg
        obtain ⟨hgd, h⟩ := guardK_some h
        simp only [Bool.and_eq_true, decide_eq_true_eq] at hgd
        obtain ⟨⟨g1, g2⟩, g3⟩ := hgd
        obtain ⟨lo, rfl⟩ : ∃ n : Nat, lo = n := ⟨lo.toNat, by omega⟩
        obtain ⟨hi2, rfl⟩ : ∃ n : Nat, hi2 = n := ⟨hi2.toNat, by omega⟩
        rw [cutL_eq g1] at h
        simp only [Int.toNat_natCast] at h
        refine ⟨hS.fn, _, _, _, Nat.le_refl _, h, fun E zs U hv hm _ => ?_⟩
        match zs, hv with
        | [z1, z2], ⟨h1, h2, _⟩ =>
          obtain rfl := fn_val h2
          obtain ⟨cs, rfl, _, _, hc⟩ := h1
          refine sort_row (nx := nx) hS hm hmb lo hi2 (by omega) (by omega) _ ?_
          rcases hc with ⟨t, hn, h0, rfl⟩ | ⟨k, t, cap, len, a, c, hρ, k1, k2, k3, rfl, k4⟩
          · exact .inl ⟨by omega, none, 0, rfl⟩
          · by_cases hlt : lo < hi2
            · have hr := hm.blocks b
              rw [hmb] at hr
              obtain ⟨_, hr⟩ := hr
              rcases hr with ⟨hn, _⟩ | ⟨k', cap', cs, el, css, rest, hρ', _⟩
              · rw [hρ] at hn; cases hn
              · rw [hρ] at hρ'
                cases hρ'
                have := k4 (by omega)
                subst this
                refine .inr ⟨k, cap, _, c, hlt, hρ, ?_⟩
                have e : ((hi2 : Int) - (lo : Int)).toNat = hi2 - lo := by omega
                rw [e]
                rfl
            · have : hi2 = lo := by omega
              subst this
              refine .inl ⟨rfl, some a, c, ?_⟩
              have e : ((hi2 : Int) - (hi2 : Int)).toNat = 0 := by omega
              rw [e]
              rfl
        | [], hv => exact hv.elim
        | [_], hv => exact hv.2.elim
        | _ :: _ :: _ :: _, hv => exact hv.2.2.elim
      · cases h
    · cases h
  · cases h
end Go.Co
end

section
namespace Go.Co.N
open Go Go.Co Go.Proofs Go.Sort

/-! ### Sorting by name -/
def cfE (x y : Entry) : Int := Lib.compareInt x.Base y.Base
def cfV (x y : Reveal) : Int := Lib.compareInt x.Who y.Who
theorem lt_cfE (x y : Entry) : ltOf cfE x y = decide (x.Base < y.Base) := by
  unfold ltOf cfE Lib.compareInt
  by_cases h1 : x.Base < y.Base
  · simp [h1]
  · by_cases h2 : y.Base < x.Base <;> simp [h1, h2]
theorem lt_cfV (x y : Reveal) : ltOf cfV x y = decide (x.Who < y.Who) := by
  unfold ltOf cfV Lib.compareInt
  by_cases h1 : x.Who < y.Who
  · simp [h1]
  · by_cases h2 : y.Who < x.Who <;> simp [h1, h2]
theorem swo_cfE : SWO (ltOf cfE) where
  irrefl x := by rw [lt_cfE]; simp
  trans x y z h1 h2 := by rw [lt_cfE] at *; simp at *; omega
  ntrans x y z h1 h2 := by rw [lt_cfE] at *; simp at *; omega
theorem swo_cfV : SWO (ltOf cfV) where
  irrefl x := by rw [lt_cfV]; simp
  trans x y z h1 h2 := by rw [lt_cfV] at *; simp at *; omega
  ntrans x y z h1 h2 := by rw [lt_cfV] at *; simp at *; omega
theorem rd_entry {w : World} {im : Nat → Prop} {x : Entry} {c : List Value} (h : Rd w im (.st .entry) x c) : c = [.int .i64 x.Who, .int .i64 x.Base, .int .i64 x.Since] := by
  have h := Rd.st.1 h
  obtain ⟨a, b, rfl, h1, h2⟩ := Rd.prod.1 h
  obtain ⟨d, e, rfl, h3, h4⟩ := Rd.prod.1 h2
  obtain ⟨f, g, rfl, h5, h6⟩ := Rd.prod.1 h4
  rw [(Rd.int.1 h1).1, (Rd.int.1 h3).1, (Rd.int.1 h5).1, Rd.unit.1 h6]
  rfl
theorem rd_reveal {w : World} {im : Nat → Prop} {x : Reveal} {c : List Value} (h : Rd w im (.st .reveal) x c) : c = [.int .i64 x.Who, .int .i64 x.Epoch] := by
  have h := Rd.st.1 h
  obtain ⟨a, b, rfl, h1, h2⟩ := Rd.prod.1 h
  obtain ⟨d, e, rfl, h3, h4⟩ := Rd.prod.1 h2
  rw [(Rd.int.1 h1).1, (Rd.int.1 h3).1, Rd.unit.1 h4]
  rfl
/-- The batch that two trees tell. -/
def cameB (a b : Tree) : Batch := ⟨leftL a.Roster b.Roster, (sortL cfE (cameL a.Roster b.Roster)).map (·.Who)⟩
abbrev c_history_came : Con := ⟨[.st .tree, .st .tree], [.st .batch], fun x => some (cameB x.1 x.2.1, ())⟩
/-- Does a step lead from the one to the other? -/
def stepB (a t : Tree) : Bool := decide ((nextT a (cameB a t)).e = 0) && decide ((nextT a (cameB a t)).t = t)
def chainB : Tree → List Tree → Bool
  | _, [] => true
  | a, t :: r => stepB a t && chainB t r
def rightR : List Tree → Bool
  | [] => false
  | t :: r => decide (t = startT) && chainB t r
abbrev c_history_Right : Con := ⟨[.list (.st .tree)], [.bool], fun x => some (rightR x.1, ())⟩
abbrev c_ref12_RowRight : Con := ⟨[.list (.st .tree)], [.bool], fun x => some (rightR x.1, ())⟩
abbrev c_ref22_Right : Con := ⟨[.list (.st .tree)], [.bool], fun x => some (rightR x.1, ())⟩

/-! ### The document's batch of two trees -/
def cameAt (a b : Roster) (last : Int) (i : Nat) : Bool := decide (last < (ent b i).Base) && !decide (ent b i = ent a i)
/-- The first of those places that have the least name above the last one. -/
def pickB (a b : Roster) (last : Int) : Nat → Option Nat
  | 0 => none
  | n + 1 => bif cameAt a b last n && (match pickB a b last n with | none => true | some k => decide ((ent b n).Base < (ent b k).Base)) then some n else pickB a b last n
def btwE (a b : Roster) : Nat → Int → List Entry
  | 0, _ => []
  | k + 1, last => match pickB a b last 64 with | none => [] | some i => ent b i :: btwE a b k (ent b i).Base
def btwB (a b : Tree) : Batch := ⟨leftL a.Roster b.Roster, (btwE a.Roster b.Roster 65 0).map (·.Who)⟩
abbrev c_ref12_between : Con := ⟨[.st .tree, .st .tree], [.st .batch], fun x => some (btwB x.1 x.2.1, ())⟩

/-! ### Rows of scripts -/
def playT : Tree → List Batch → List Tree × List Int
  | _, [] => ([], [])
  | t, b :: r => bif decide ((nextT t b).e = 0) then ((nextT t b).t :: (playT (nextT t b).t r).1, 0 :: (playT (nextT t b).t r).2) else ((playT t r).1, (nextT t b).e :: (playT t r).2)
def rowOfS (s : List Batch) : List Tree := startT :: (playT startT s).1
def errsOfS (s : List Batch) : List Int := (playT startT s).2
abbrev c_history_Play : Con := ⟨[.list (.st .batch)], [.list (.st .tree), .list .i], fun x => some (rowOfS x.1, errsOfS x.1, ())⟩
abbrev c_ref12_RowPlay : Con := ⟨[.list (.st .batch)], [.list (.st .tree), .list .i], fun x => some (rowOfS x.1, errsOfS x.1, ())⟩
abbrev c_ref22_Play : Con := ⟨[.list (.st .batch)], [.list (.st .tree), .list .i], fun x => some (rowOfS x.1, errsOfS x.1, ())⟩

/-! ### Who was on; what is excused -/
def onR (row : List Tree) (who fr to : Int) : Bool := decide (0 ≤ fr) && decide (fr ≤ to) && decide (to < (row.length : Int)) && allN (to - fr + 1).toNat fun i => decide (0 ≤ findR (lat row (fr + (i : Int))).Roster who)
abbrev c_history_On : Con := ⟨[.list (.st .tree), .i, .i, .i], [.bool], fun x => some (onR x.1 x.2.1 x.2.2.1 x.2.2.2.1, ())⟩
abbrev c_ref12_RowOn : Con := ⟨[.list (.st .tree), .i, .i, .i], [.bool], fun x => some (onR x.1 x.2.1 x.2.2.1 x.2.2.2.1, ())⟩
abbrev c_ref22_On : Con := ⟨[.list (.st .tree), .i, .i, .i], [.bool], fun x => some (onR x.1 x.2.1 x.2.2.1 x.2.2.2.1, ())⟩
def excR (row : List Tree) (seen : List Reveal) (e v : Int) : Bool := decide (0 ≤ v) && decide (v < 21) && seen.any fun x => onR row x.Who x.Epoch e && below v (leaf (findR (lat row e).Roster x.Who))
abbrev c_history_Excused : Con := ⟨[.list (.st .tree), .list (.st .reveal), .i, .i], [.bool], fun x => some (excR x.1 x.2.1 x.2.2.1 x.2.2.2.1, ())⟩
abbrev c_ref12_RowExcused : Con := ⟨[.list (.st .tree), .list (.st .reveal), .i, .i], [.bool], fun x => some (excR x.1 x.2.1 x.2.2.1 x.2.2.2.1, ())⟩
abbrev c_ref22_Excused : Con := ⟨[.list (.st .tree), .list (.st .reveal), .i, .i], [.bool], fun x => some (excR x.1 x.2.1 x.2.2.1 x.2.2.2.1, ())⟩

/-! ### Names that begin -/
def bornGo : Int → Int → List Tree → List Reveal
  | _, _, [] => []
  | f, i, t :: r => (List.range (t.Fresh - f).toNat).map (fun (k : Nat) => (⟨f + k, i⟩ : Reveal)) ++ bornGo t.Fresh (i + 1) r
def bornR (row : List Tree) : List Reveal := bif rightR row then bornGo 1 0 row else []
abbrev c_history_Born : Con := ⟨[.list (.st .tree)], [.list (.st .reveal)], fun x => some (bornR x.1, ())⟩
abbrev c_ref12_RowBorn : Con := ⟨[.list (.st .tree)], [.list (.st .reveal)], fun x => some (bornR x.1, ())⟩
abbrev c_ref22_Born : Con := ⟨[.list (.st .tree)], [.list (.st .reveal)], fun x => some (bornR x.1, ())⟩

/-! ### The same rows -/
abbrev c_ref22_Same : Con := ⟨[.list (.st .reveal), .list (.st .reveal)], [.bool], fun x => some (decide ((x.1 : List Reveal) = x.2.1), ())⟩
abbrev c_ref22_SameRow : Con := ⟨[.list (.st .tree), .list (.st .tree)], [.bool], fun x => some (decide ((x.1 : List Tree) = x.2.1), ())⟩
abbrev c_ref22_SameErrors : Con := ⟨[.list .i, .list .i], [.bool], fun x => some (decide ((x.1 : List Int) = x.2.1), ())⟩
end Go.Co.N
end

section
namespace Go.Proofs.YtghlolinkmlkeaaGreatDoor
open Go Go.Co Go.Co.N Go.Proofs Go.Shelf Go.RowKit Go.Lib Go.Sort

def Tryz.sortE_ren : Go.Shelf.Ren := ⟨fun | 6 => 50 | 15 => 54 | 14 => 85 | 28 => 94 | 29 => 95 | 20 => 120 | 21 => 121 | 22 => 122 | 23 => 123 | 24 => 124 | 25 => 125 | 26 => 126 | 27 => 127 | 46 => 144 | 47 => 129 | 48 => 130 | 49 => 145 | 50 => 146 | 57 => 151 | n => n, fun | 22 => 89 | 24 => 36 | 25 => 91 | 3 => 3 | 39 => 72 | 0 => 0 | 53 => 68 | 55 => 98 | 4 => 4 | 46 => 125 | 45 => 124 | 50 => 129 | 5 => 5 | 9 => 9 | 66 => 154 | 70 => 158 | 76 => 169 | 77 => 132 | n => n, fun | n => n⟩
theorem Tryz.sortE : SlLaysF0.n6 Tryz.prog Tryz.sortE_ren := {
  mixed := by kernel_rfl,
  f6 := ⟨Tryz.f50.name, by decide, Tryz.func50.trans (congrArg some (by kernel_rfl))⟩,
  f14 := ⟨Tryz.f85.name, by decide, Tryz.func85.trans (congrArg some (by kernel_rfl))⟩,
  f15 := Tryz.func54.trans (congrArg some (by kernel_rfl)),
  f20 := ⟨Tryz.f120.name, by decide, Tryz.func120.trans (congrArg some (by kernel_rfl))⟩,
  f21 := ⟨Tryz.f121.name, by decide, Tryz.func121.trans (congrArg some (by kernel_rfl))⟩,
  f22 := ⟨Tryz.f122.name, by decide, Tryz.func122.trans (congrArg some (by kernel_rfl))⟩,
  f23 := ⟨Tryz.f123.name, by decide, Tryz.func123.trans (congrArg some (by kernel_rfl))⟩,
  f24 := ⟨Tryz.f124.name, by decide, Tryz.func124.trans (congrArg some (by kernel_rfl))⟩,
  f25 := ⟨Tryz.f125.name, by decide, Tryz.func125.trans (congrArg some (by kernel_rfl))⟩,
  f26 := ⟨Tryz.f126.name, by decide, Tryz.func126.trans (congrArg some (by kernel_rfl))⟩,
  f27 := ⟨Tryz.f127.name, by decide, Tryz.func127.trans (congrArg some (by kernel_rfl))⟩,
  f28 := Tryz.func94.trans (congrArg some (by kernel_rfl)),
  f29 := Tryz.func95.trans (congrArg some (by kernel_rfl)),
  f46 := ⟨Tryz.f144.name, by decide, Tryz.func144.trans (congrArg some (by kernel_rfl))⟩,
  f47 := Tryz.func129.trans (congrArg some (by kernel_rfl)),
  f48 := Tryz.func130.trans (congrArg some (by kernel_rfl)),
  f49 := ⟨Tryz.f145.name, by decide, Tryz.func145.trans (congrArg some (by kernel_rfl))⟩,
  f50 := ⟨Tryz.f146.name, by decide, Tryz.func146.trans (congrArg some (by kernel_rfl))⟩,
  f57 := ⟨Tryz.f151.name, by decide, Tryz.func151.trans (congrArg some (by kernel_rfl))⟩,
  t0 := Tryz.underlying0,
  a0 := Tryz.isAgg0,
  z0 := Tryz.sizeOf0,
  v0 := Tryz.zeroValue0,
  t3 := Tryz.underlying3,
  a3 := Tryz.isAgg3,
  z3 := Tryz.sizeOf3,
  v3 := Tryz.zeroValue3,
  t4 := Tryz.underlying4,
  a4 := Tryz.isAgg4,
  z4 := Tryz.sizeOf4,
  v4 := Tryz.zeroValue4,
  t5 := Tryz.underlying5,
  a5 := Tryz.isAgg5,
  z5 := Tryz.sizeOf5,
  v5 := Tryz.zeroValue5,
  t9 := Tryz.underlying9,
  a9 := Tryz.isAgg9,
  z9 := Tryz.sizeOf9,
  v9 := Tryz.zeroValue9,
  t22 := Tryz.underlying89,
  a22 := Tryz.isAgg89,
  z22 := Tryz.sizeOf89,
  v22 := Tryz.zeroValue89,
  t25 := Tryz.underlying91,
  a25 := Tryz.isAgg91,
  z25 := Tryz.sizeOf91,
  v25 := Tryz.zeroValue91,
  t39 := Tryz.underlying72,
  a39 := Tryz.isAgg72,
  z39 := Tryz.sizeOf72,
  v39 := Tryz.zeroValue72,
  t45 := Tryz.underlying124,
  a45 := Tryz.isAgg124,
  z45 := Tryz.sizeOf124,
  v45 := Tryz.zeroValue124,
  t46 := Tryz.underlying125,
  a46 := Tryz.isAgg125,
  z46 := Tryz.sizeOf125,
  v46 := Tryz.zeroValue125,
  t50 := Tryz.underlying129,
  a50 := Tryz.isAgg129,
  z50 := Tryz.sizeOf129,
  v50 := Tryz.zeroValue129,
  t53 := Tryz.underlying68,
  a53 := Tryz.isAgg68,
  z53 := Tryz.sizeOf68,
  v53 := Tryz.zeroValue68,
  t55 := Tryz.underlying98,
  a55 := Tryz.isAgg98,
  z55 := Tryz.sizeOf98,
  v55 := Tryz.zeroValue98,
  t66 := Tryz.underlying154,
  a66 := Tryz.isAgg154,
  z66 := Tryz.sizeOf154,
  v66 := Tryz.zeroValue154,
  t70 := Tryz.underlying158,
  a70 := Tryz.isAgg158,
  z70 := Tryz.sizeOf158,
  v70 := Tryz.zeroValue158,
  t76 := Tryz.underlying169,
  a76 := Tryz.isAgg169,
  z76 := Tryz.sizeOf169,
  v76 := Tryz.zeroValue169,
  t77 := Tryz.underlying132,
  a77 := Tryz.isAgg132,
  z77 := Tryz.sizeOf132,
  v77 := Tryz.zeroValue132 }
def Tryz.sortV_ren : Go.Shelf.Ren := ⟨fun | 6 => 32 | 15 => 54 | 14 => 53 | 28 => 94 | 29 => 95 | 20 => 86 | 21 => 87 | 22 => 88 | 23 => 89 | 24 => 90 | 25 => 91 | 26 => 92 | 27 => 93 | 46 => 128 | 47 => 129 | 48 => 130 | 49 => 131 | 50 => 132 | 57 => 147 | n => n, fun | 22 => 47 | 24 => 51 | 25 => 77 | 3 => 3 | 39 => 72 | 0 => 0 | 53 => 68 | 55 => 98 | 4 => 4 | 46 => 125 | 45 => 124 | 50 => 129 | 5 => 5 | 9 => 9 | 66 => 154 | 70 => 158 | 76 => 169 | 77 => 132 | n => n, fun | n => n⟩
theorem Tryz.sortV : SlLaysF0.n6 Tryz.prog Tryz.sortV_ren := {
  mixed := by kernel_rfl,
  f6 := ⟨Tryz.f32.name, by decide, Tryz.func32.trans (congrArg some (by kernel_rfl))⟩,
  f14 := ⟨Tryz.f53.name, by decide, Tryz.func53.trans (congrArg some (by kernel_rfl))⟩,
  f15 := Tryz.func54.trans (congrArg some (by kernel_rfl)),
  f20 := ⟨Tryz.f86.name, by decide, Tryz.func86.trans (congrArg some (by kernel_rfl))⟩,
  f21 := ⟨Tryz.f87.name, by decide, Tryz.func87.trans (congrArg some (by kernel_rfl))⟩,
  f22 := ⟨Tryz.f88.name, by decide, Tryz.func88.trans (congrArg some (by kernel_rfl))⟩,
  f23 := ⟨Tryz.f89.name, by decide, Tryz.func89.trans (congrArg some (by kernel_rfl))⟩,
  f24 := ⟨Tryz.f90.name, by decide, Tryz.func90.trans (congrArg some (by kernel_rfl))⟩,
  f25 := ⟨Tryz.f91.name, by decide, Tryz.func91.trans (congrArg some (by kernel_rfl))⟩,
  f26 := ⟨Tryz.f92.name, by decide, Tryz.func92.trans (congrArg some (by kernel_rfl))⟩,
  f27 := ⟨Tryz.f93.name, by decide, Tryz.func93.trans (congrArg some (by kernel_rfl))⟩,
  f28 := Tryz.func94.trans (congrArg some (by kernel_rfl)),
  f29 := Tryz.func95.trans (congrArg some (by kernel_rfl)),
  f46 := ⟨Tryz.f128.name, by decide, Tryz.func128.trans (congrArg some (by kernel_rfl))⟩,
  f47 := Tryz.func129.trans (congrArg some (by kernel_rfl)),
  f48 := Tryz.func130.trans (congrArg some (by kernel_rfl)),
  f49 := ⟨Tryz.f131.name, by decide, Tryz.func131.trans (congrArg some (by kernel_rfl))⟩,
  f50 := ⟨Tryz.f132.name, by decide, Tryz.func132.trans (congrArg some (by kernel_rfl))⟩,
  f57 := ⟨Tryz.f147.name, by decide, Tryz.func147.trans (congrArg some (by kernel_rfl))⟩,
  t0 := Tryz.underlying0,
  a0 := Tryz.isAgg0,
  z0 := Tryz.sizeOf0,
  v0 := Tryz.zeroValue0,
  t3 := Tryz.underlying3,
  a3 := Tryz.isAgg3,
  z3 := Tryz.sizeOf3,
  v3 := Tryz.zeroValue3,
  t4 := Tryz.underlying4,
  a4 := Tryz.isAgg4,
  z4 := Tryz.sizeOf4,
  v4 := Tryz.zeroValue4,
  t5 := Tryz.underlying5,
  a5 := Tryz.isAgg5,
  z5 := Tryz.sizeOf5,
  v5 := Tryz.zeroValue5,
  t9 := Tryz.underlying9,
  a9 := Tryz.isAgg9,
  z9 := Tryz.sizeOf9,
  v9 := Tryz.zeroValue9,
  t22 := Tryz.underlying47,
  a22 := Tryz.isAgg47,
  z22 := Tryz.sizeOf47,
  v22 := Tryz.zeroValue47,
  t25 := Tryz.underlying77,
  a25 := Tryz.isAgg77,
  z25 := Tryz.sizeOf77,
  v25 := Tryz.zeroValue77,
  t39 := Tryz.underlying72,
  a39 := Tryz.isAgg72,
  z39 := Tryz.sizeOf72,
  v39 := Tryz.zeroValue72,
  t45 := Tryz.underlying124,
  a45 := Tryz.isAgg124,
  z45 := Tryz.sizeOf124,
  v45 := Tryz.zeroValue124,
  t46 := Tryz.underlying125,
  a46 := Tryz.isAgg125,
  z46 := Tryz.sizeOf125,
  v46 := Tryz.zeroValue125,
  t50 := Tryz.underlying129,
  a50 := Tryz.isAgg129,
  z50 := Tryz.sizeOf129,
  v50 := Tryz.zeroValue129,
  t53 := Tryz.underlying68,
  a53 := Tryz.isAgg68,
  z53 := Tryz.sizeOf68,
  v53 := Tryz.zeroValue68,
  t55 := Tryz.underlying98,
  a55 := Tryz.isAgg98,
  z55 := Tryz.sizeOf98,
  v55 := Tryz.zeroValue98,
  t66 := Tryz.underlying154,
  a66 := Tryz.isAgg154,
  z66 := Tryz.sizeOf154,
  v66 := Tryz.zeroValue154,
  t70 := Tryz.underlying158,
  a70 := Tryz.isAgg158,
  z70 := Tryz.sizeOf158,
  v70 := Tryz.zeroValue158,
  t76 := Tryz.underlying169,
  a76 := Tryz.isAgg169,
  z76 := Tryz.sizeOf169,
  v76 := Tryz.zeroValue169,
  t77 := Tryz.underlying132,
  a77 := Tryz.isAgg132,
  z77 := Tryz.sizeOf132,
  v77 := Tryz.zeroValue132 }
def Tryz.cmpI_ren : Go.Shelf.Ren := ⟨fun | 5 => 34 | 7 => 55 | n => n, fun | 22 => 3 | 3 => 3 | 4 => 4 | n => n, fun | n => n⟩
theorem Tryz.cmpI : SlLaysC2.n5 Tryz.prog Tryz.cmpI_ren := {
  mixed := by kernel_rfl,
  f5 := ⟨Tryz.f34.name, by decide, Tryz.func34.trans (congrArg some (by kernel_rfl))⟩,
  f7 := ⟨Tryz.f55.name, by decide, Tryz.func55.trans (congrArg some (by kernel_rfl))⟩,
  t3 := Tryz.underlying3,
  a3 := Tryz.isAgg3,
  z3 := Tryz.sizeOf3,
  v3 := Tryz.zeroValue3,
  t4 := Tryz.underlying4,
  a4 := Tryz.isAgg4,
  z4 := Tryz.sizeOf4,
  v4 := Tryz.zeroValue4,
  t22 := Tryz.underlying3,
  a22 := Tryz.isAgg3,
  z22 := Tryz.sizeOf3,
  v22 := Tryz.zeroValue3 }

def encE (x : Co.Entry) : List Value := [.int .i64 x.Who, .int .i64 x.Base, .int .i64 x.Since]
set_option maxHeartbeats 1000000 in
theorem cloE (x y : Co.Entry) (W : World) : Calls Tryz.prog 51 #[.agg #[.int .i64 x.Who, .int .i64 x.Base, .int .i64 x.Since], .agg #[.int .i64 y.Who, .int .i64 y.Base, .int .i64 y.Since]] W fun e w' => e = .returned (.int .i64 (cfE x y)) ∧ ∃ q os', w' = grow (W.drewN q) os' := by
  have hcon := fun W' => AnyG.cmp_Compare_int Tryz.cmpI x.Base y.Base W'
  change ∀ W', Calls Tryz.prog 34 _ _ _ at hcon
  show Calls Tryz.prog 51 _ W fun e w' => e = .returned (.int .i64 (Lib.compareInt x.Base y.Base)) ∧ _
  generalize Lib.compareInt x.Base y.Base = r at hcon ⊢
  go_enter Tryz.func51, Tryz.ntmps51
  go_wp2_with (go_at_call 34; refine (hcon _).mono ?_; rintro e w' ⟨rfl, rfl⟩)
  go_ret
  exact ⟨rfl, 0, _, by rw [alloc_eq_grow, alloc_eq_grow, grow_grow]; rfl⟩
theorem sortE_ok : SortOK Tryz.prog ⟨50, 51, .st .entry, cfE⟩ :=
  SortOK.of (d := ⟨50, 51, .st .entry, cfE⟩) Tryz.sortE rfl (FnOK.of Tryz.func50 rfl (by kernel_rfl)) rfl (by decide) Tryz.isAgg36 Tryz.sizeOf36 encE (fun _ => rfl)
    (fun x v hv => by simp [encE] at hv; rcases hv with rfl | rfl | rfl <;> rfl) (fun w im x c h => rd_entry h) swo_cfE (FnOK.of Tryz.func51 rfl (by kernel_rfl)) (fun _ _ _ _ _ _ _ _ x y => cloE x y _)

def encV (x : Co.Reveal) : List Value := [.int .i64 x.Who, .int .i64 x.Epoch]
set_option maxHeartbeats 1000000 in
theorem cloV (x y : Co.Reveal) (W : World) : Calls Tryz.prog 33 #[.agg #[.int .i64 x.Who, .int .i64 x.Epoch], .agg #[.int .i64 y.Who, .int .i64 y.Epoch]] W fun e w' => e = .returned (.int .i64 (cfV x y)) ∧ ∃ q os', w' = grow (W.drewN q) os' := by
  have hcon := fun W' => AnyG.cmp_Compare_int Tryz.cmpI x.Who y.Who W'
  change ∀ W', Calls Tryz.prog 34 _ _ _ at hcon
  show Calls Tryz.prog 33 _ W fun e w' => e = .returned (.int .i64 (Lib.compareInt x.Who y.Who)) ∧ _
  generalize Lib.compareInt x.Who y.Who = r at hcon ⊢
  go_enter Tryz.func33, Tryz.ntmps33
  go_wp2_with (go_at_call 34; refine (hcon _).mono ?_; rintro e w' ⟨rfl, rfl⟩)
  go_ret
  exact ⟨rfl, 0, _, by rw [alloc_eq_grow, alloc_eq_grow, grow_grow]; rfl⟩
theorem sortV_ok : SortOK Tryz.prog ⟨32, 33, .st .reveal, cfV⟩ :=
  SortOK.of (d := ⟨32, 33, .st .reveal, cfV⟩) Tryz.sortV rfl (FnOK.of Tryz.func32 rfl (by kernel_rfl)) rfl (by decide) Tryz.isAgg51 Tryz.sizeOf51 encV (fun _ => rfl)
    (fun x v hv => by simp [encV] at hv; rcases hv with rfl | rfl <;> rfl) (fun w im x c h => rd_reveal h) swo_cfV (FnOK.of Tryz.func33 rfl (by kernel_rfl)) (fun _ _ _ _ _ _ _ _ x y => cloV x y _)

def sorts : List SortD := [⟨50, 51, .st .entry, cfE⟩, ⟨32, 33, .st .reveal, cfV⟩]
theorem sorts_ok : ∀ d ∈ sorts, SortOK Tryz.prog d := by
  intro d hd
  simp only [sorts, List.mem_cons, List.not_mem_nil, or_false] at hd
  rcases hd with rfl | rfl
  · exact sortE_ok
  · exact sortV_ok
end Go.Proofs.YtghlolinkmlkeaaGreatDoor
end

section
namespace Go.Proofs.YtghlolinkmlkeaaGreatDoor
open Go Go.Co Go.Proofs

def T : Tab := [(1, .one), (2, .ty (.int .i64)), (3, .ty (.int .i64)), (4, .ty .bool), (5, .ty (.int .u8)), (6, .ty (.int .u8)), (9, .ty .str), (10, .ty .str), (11, .ty .str), (12, .ty (.int .u64)), (15, .pt), (16, .pt), (17, .pt), (21, .ty (.int .i32)), (22, .ty (.list (.st .batch))), (23, .one), (24, .ty (.list (.st .tree))), (25, .ty (.list (.int .i64))), (27, .one), (28, .one), (29, .one), (30, .one), (32, .ty (.st .key)), (33, .ty (.arr 21 (.st .key))), (34, .ty (.arr 21 (.st .key))), (36, .ty (.st .entry)), (37, .ty (.arr 64 (.st .entry))), (38, .ty (.arr 64 (.st .entry))), (40, .ty (.st .tree)), (41, .ty (.int .i64)), (42, .one), (43, .ty (.list (.int .i64))), (45, .ty (.st .turned)), (46, .one), (47, .ty (.list (.st .reveal))), (48, .one), (49, .one), (51, .ty (.st .reveal)), (52, .one), (54, .ty (.st .ask)), (55, .one), (56, .one), (57, .one), (58, .one), (60, .ty (.st .batch)), (61, .ty (.list (.st .seat))), (62, .ty (.list (.st .item))), (64, .ty (.st .rekey)), (66, .one), (67, .one), (68, .ty (.int .u32)), (69, .one), (70, .one), (71, .one), (72, .ty (.int .u64)), (73, .mp (.int .i64) (.int .i64)), (74, .one), (75, .one), (76, .one), (77, .one), (78, .one), (79, .one), (80, .one), (81, .one), (82, .one), (84, .one), (85, .one), (87, .ty (.st .seat)), (88, .one), (89, .ty (.list (.st .entry))), (90, .one), (91, .one), (92, .one), (93, .one), (94, .one), (95, .one), (96, .one), (97, .one), (98, .ty (.int .u64)), (99, .one), (100, .one), (101, .one), (103, .one), (105, .one), (106, .one), (108, .ty (.st .box)), (110, .ty (.st .item)), (111, .one), (112, .ty (.arr 3 (.int .i64))), (114, .one), (115, .one), (116, .one), (118, .one), (119, .one), (120, .one), (121, .one), (122, .one), (123, .one), (124, .ty (.int .i64)), (126, .one), (127, .one), (128, .one), (130, .one), (131, .one), (133, .one), (134, .one), (135, .one), (136, .ty (.arr 256 .bool)), (137, .one), (139, .one), (140, .one), (141, .one), (142, .one), (143, .one), (144, .one), (146, .one), (147, .one), (148, .one), (149, .one), (150, .one), (151, .one), (152, .one), (153, .one), (154, .ty (.int .u64)), (155, .one), (156, .one), (157, .one), (158, .pt), (159, .one), (160, .one), (161, .ty (.arr 64 .bool)), (162, .one), (163, .one), (164, .one), (165, .one), (166, .one), (167, .one), (168, .one), (169, .pt), (170, .one), (171, .one), (172, .one), (173, .ty (.arr 64 (.int .u8))), (174, .one), (180, .one), (181, .ty (.int .u8)), (182, .ty (.int .u8)), (183, .one), (184, .pt), (185, .ty (.int .i32)), (186, .ty (.int .i32))]
theorem T_ok : TabOK Tryz.prog T := TabOK.of (by kernel_rfl)
def body (f : Func) : Code := match f.body with | some c => c | none => .skip
def noInl : (R : Type) → Nat → List AV → Mem → Nat → KO R → Option R := fun _ _ _ _ _ _ => none
def lsOf : List (Nat × List (Nat × LD)) → Nat → List (Nat × LD)
  | [], _ => []
  | (i, l) :: r, n => match Nat.beq n i with | true => l | false => lsOf r n
/-- Contracts (fr: those whose answers are new memory), loops' lines, calls gone into. -/
noncomputable def EF (con : Cons') (fr : List Nat) (Ls : List (Nat × List (Nat × LD))) (B : Bodies) : Nat → List (Nat × LD) → EE
  | 0, L => { T := T, con := con, lp := lpM L, inl := sortH sorts noInl, fr := fr }
  | n + 1, L => { T := T, con := con, lp := lpM L, inl := sortH sorts fun R f vs m nx K => inlJ (lsOf Ls f) (EF con fr Ls B n (lsOf Ls f)) B R f vs m nx K, fr := fr }
noncomputable def run (con : Cons') (L : List (Nat × LD)) (Ls : List (Nat × List (Nat × LD))) (B : Bodies) (f : Func) (args res : List Ty) (x : denL args) : Option (denL res) := evF (EF con [] Ls B 4 L) f (body f) args x (retK T f.results.toList res)
noncomputable def runF (con : Cons') (fr : List Nat) (L : List (Nat × LD)) (Ls : List (Nat × List (Nat × LD))) (B : Bodies) (f : Func) (args res : List Ty) (x : denL args) : Option (denL res) := evF (EF con fr Ls B 4 L) f (body f) args x (retK T f.results.toList res)
noncomputable def frun (con : Cons') (fr : List Nat) (L : List (Nat × LD)) (Ls : List (Nat × List (Nat × LD))) (B : Bodies) (f : Func) (args res : List Ty) (x : denL args) : Option (denL res) := evF (EF con fr Ls B 4 L) f (body f) args x (retF T f.results.toList res)
def FConsOK (con : Cons') (fr : List Nat) : Prop := ∀ f c, conOf con f = some c → (inL fr f = false → ConOK Tryz.prog f c) ∧ (inL fr f = true → FConOK Tryz.prog f c)
theorem FConsOK.nil {fr : List Nat} : FConsOK [] fr := fun f c h => by cases h
theorem FConsOK.cons {con : Cons'} {fr : List Nat} {i : Nat} {c : Con} (hi : inL fr i = false) (h : ConOK Tryz.prog i c) (hc : FConsOK con fr) : FConsOK ((i, c) :: con) fr := by
  intro f d hf
  unfold conOf at hf
  split at hf
  · rename_i hb
    have := Nat.eq_of_beq_eq_true hb; subst this
    cases hf; exact ⟨fun _ => h, fun hn => by rw [hi] at hn; cases hn⟩
  · exact hc f d hf
theorem FConsOK.fcons {con : Cons'} {fr : List Nat} {i : Nat} {c : Con} (hi : inL fr i = true) (h : FConOK Tryz.prog i c) (hc : FConsOK con fr) : FConsOK ((i, c) :: con) fr := by
  intro f d hf
  unfold conOf at hf
  split at hf
  · rename_i hb
    have := Nat.eq_of_beq_eq_true hb; subst this
    cases hf; exact ⟨fun hn => (by rw [hi] at hn; cases hn), fun _ => h⟩
  · exact hc f d hf
def ConsOK (con : Cons') : Prop := FConsOK con []
theorem ConsOK.nil : ConsOK [] := FConsOK.nil
theorem ConsOK.cons {con : Cons'} {i : Nat} {c : Con} (h : ConOK Tryz.prog i c) (hc : ConsOK con) : ConsOK ((i, c) :: con) := FConsOK.cons rfl h hc
def bodyLine (i : Nat) (f : Func) : Nat × Nat × List ResultVar × Code := (i, f.ntmps, f.results.toList, body f)
theorem BodiesOK.nil : BodiesOK Tryz.prog [] := fun f n rs b h => by cases h
theorem BodiesOK.cons {B : Bodies} {i : Nat} {f : Func} (hi : Tryz.prog.funcs[i]? = some f) (hs : (f.body.isSome && !(f.name == "runtime.NumGoroutine")) = true) (hB : BodiesOK Tryz.prog B) : BodiesOK Tryz.prog (bodyLine i f :: B) := by
  intro j n rs b h
  unfold bodyLine bodyOf at h
  split at h
  · rename_i hb
    have := Nat.eq_of_beq_eq_true hb; subst this
    cases h
    simp only [Bool.and_eq_true, Bool.not_eq_true'] at hs
    obtain ⟨c, hc⟩ := Option.isSome_iff_exists.1 hs.1
    exact ⟨f, hi, by unfold body; rw [hc], rfl, rfl, hs.2⟩
  · exact hB j n rs b h
theorem EF_lp {con : Cons'} {fr : List Nat} (Ls : List (Nat × List (Nat × LD))) (B : Bodies) (k : Nat) (L : List (Nat × LD)) : (EF con fr Ls B k L).lp = lpM L := by cases k <;> rfl
theorem EF_sp {con : Cons'} {fr : List Nat} (Ls : List (Nat × List (Nat × LD))) (B : Bodies) (k : Nat) (L : List (Nat × LD)) (i : Nat) : (EF con fr Ls B k L).sp i = none := by cases k <;> rfl
theorem EF_ok {con : Cons'} {fr : List Nat} (hc : FConsOK con fr) (Ls : List (Nat × List (Nat × LD))) {B : Bodies} (hB : BodiesOK Tryz.prog B) (C : Ctx) (hP : C.P = Tryz.prog) : ∀ (k : Nat) (L : List (Nat × LD)), EOK Tryz.prog C (EF con fr Ls B k L)
  | 0, L => ⟨T_ok, fun f c h => (hc f c h).1, fun f c h => (hc f c h).2, sortH_ok sorts_ok (fun R f vs m nx K y h => (by cases h)), hP⟩
  | k + 1, L => ⟨T_ok, fun f c h => (hc f c h).1, fun f c h => (hc f c h).2, sortH_ok sorts_ok (inlO_ok (Es := fun f => EF con fr Ls B k (lsOf Ls f)) (fun f => lsOf Ls f) hB (fun f => EF_ok hc Ls hB C hP k (lsOf Ls f)) (fun f n => lpM_ok (EF_lp Ls B k (lsOf Ls f))) (fun f i => EF_sp Ls B k (lsOf Ls f) i) rfl), hP⟩
def shapeOK (f : Func) (c : Con) : Bool := f.body.isSome && !(f.name == "runtime.NumGoroutine") && c.args.all plainTy && c.res.all plainTy && Nat.ble c.args.length f.ntmps
theorem con_okF {con : Cons'} {fr : List Nat} (hc : FConsOK con fr) (L : List (Nat × LD)) (Ls : List (Nat × List (Nat × LD))) {B : Bodies} (hB : BodiesOK Tryz.prog B) {i : Nat} {f : Func} (hi : Tryz.prog.funcs[i]? = some f) {c : Con} (hs : shapeOK f c = true) (h : ∀ x y, FineL c.args x → c.fn x = some y → runF con fr L Ls B f c.args c.res x = some y) : ConOK Tryz.prog i c := by
  simp only [shapeOK, Bool.and_eq_true, Bool.not_eq_true'] at hs
  obtain ⟨⟨⟨⟨h1, h2⟩, h3⟩, h4⟩, h5⟩ := hs
  obtain ⟨b, hb⟩ := Option.isSome_iff_exists.1 h1
  refine con_of hi hb h2 (E := EF con fr Ls B 4 L) (fun C hP => EF_ok hc Ls hB C hP 4 L) (fun C _ => lpM_ok (EF_lp Ls B 4 L)) (fun C _ => SpOK.none (EF_sp Ls B 4 L) b) rfl h3 h4 h5 fun x y hf hxy => ?_
  have := h x y hf hxy
  unfold runF body at this
  rw [hb] at this
  exact this
theorem con_ok {con : Cons'} (hc : ConsOK con) (L : List (Nat × LD)) (Ls : List (Nat × List (Nat × LD))) {B : Bodies} (hB : BodiesOK Tryz.prog B) {i : Nat} {f : Func} (hi : Tryz.prog.funcs[i]? = some f) {c : Con} (hs : shapeOK f c = true) (h : ∀ x y, FineL c.args x → c.fn x = some y → run con L Ls B f c.args c.res x = some y) : ConOK Tryz.prog i c :=
  con_okF hc L Ls hB hi hs h
def fshapeOK (f : Func) (c : Con) : Bool := f.body.isSome && !(f.name == "runtime.NumGoroutine") && c.args.all plainTy && c.res.all frOK && Nat.ble c.args.length f.ntmps
theorem fcon_ok {con : Cons'} {fr : List Nat} (hc : FConsOK con fr) (L : List (Nat × LD)) (Ls : List (Nat × List (Nat × LD))) {B : Bodies} (hB : BodiesOK Tryz.prog B) {i : Nat} {f : Func} (hi : Tryz.prog.funcs[i]? = some f) {c : Con} (hs : fshapeOK f c = true) (h : ∀ x y, FineL c.args x → c.fn x = some y → frun con fr L Ls B f c.args c.res x = some y) : FConOK Tryz.prog i c := by
  simp only [fshapeOK, Bool.and_eq_true, Bool.not_eq_true'] at hs
  obtain ⟨⟨⟨⟨h1, h2⟩, h3⟩, h4⟩, h5⟩ := hs
  obtain ⟨b, hb⟩ := Option.isSome_iff_exists.1 h1
  refine fcon_of hi hb h2 (E := EF con fr Ls B 4 L) (fun C hP => EF_ok hc Ls hB C hP 4 L) (fun C _ => lpM_ok (EF_lp Ls B 4 L)) (fun C _ => SpOK.none (EF_sp Ls B 4 L) b) rfl h3 h4 h5 fun x y hf hxy => ?_
  have := h x y hf hxy
  unfold frun body at this
  rw [hb] at this
  exact this
end Go.Proofs.YtghlolinkmlkeaaGreatDoor
end

section
namespace Go.Co
open Go.RowKit

/-- Inside the loop, a round before it. -/
def LW (P : Program) (c : Code) (Q : Exit → Act → World → Prop) (a : Act) (w : World) : Prop :=
  ∀ (b : Frame) (k : List Go.Item) (cs : List Frame), ∃ e a' w', Q e a' w' ∧ Arrives P (lone (b.at a (.code c :: .inLoop c :: k)) cs w) b k cs e a' w'
theorem LW.loop {P : Program} {c : Code} {Q : Exit → Act → World → Prop} {a : Act} {w : World} (h : LW P c Q a w) : (Code.loop c).wp P Q a w := by
  intro b k cs
  obtain ⟨e, a', w', hq, harr⟩ := h b k cs
  exact ⟨e, a', w', hq, .of_steps (.one step_loop) harr⟩
theorem LW.round {P : Program} {c : Code} {Q : Exit → Act → World → Prop} {a : Act} {w : World} (h : c.wp P (Exit.then (LW P c Q) Q) a w) : LW P c Q a w := by
  intro b k cs
  obtain ⟨e, a₁, w₁, hq, harr⟩ := h b (.inLoop c :: k) cs
  cases e with
  | normal =>
    obtain ⟨e₂, a₂, w₂, hq₂, harr₂⟩ := hq b k cs
    exact ⟨e₂, a₂, w₂, hq₂, .of_steps (Steps.trans harr (.one step_inLoop)) harr₂⟩
  | exit id => exact ⟨_, a₁, w₁, hq, .pass (x := .inLoop c) rfl (fun _ _ => .inl (by simp)) harr⟩
  | goto l => exact ⟨_, a₁, w₁, hq, .pass (x := .inLoop c) rfl (fun _ _ => .inl (by simp)) harr⟩
  | ret => exact ⟨_, a₁, w₁, hq, .pass (x := .inLoop c) rfl (fun _ _ => .inl (by simp)) harr⟩
  | panic ch => exact ⟨_, a₁, w₁, hq, .pass (x := .inLoop c) rfl (fun _ _ => .inl (by simp)) harr⟩
  | outgrown => exact ⟨_, a₁, w₁, hq, .pass (x := .inLoop c) rfl (fun _ _ => .inl (by simp)) harr⟩
end Go.Co
end

section
namespace Go.Co
open Go.RowKit
open Go.ChangeMaps (setBlock)

/-! ### Regions run by hand -/
def opsRun (P : Program) : List Oper → Act → World → (Act → World → Prop) → Prop
  | [], a, w, R => R a w
  | o :: r, a, w, R => OpRun P o a.eval w fun v w' => opsRun P r (a.put o.dst v) w' R
theorem region_run {P : Program} {id : Nat} {ops : Array Oper} {Q : Exit → Act → World → Prop} {a : Act} {w : World} (hg : ∀ o ∈ ops.toList, o.guard = none) (h : opsRun P ops.toList a w (Q .normal)) : (Code.region id ops false).wp P Q a w := by
  refine wp_region ?_
  have key : ∀ (rest : List Oper) (i : Nat) (a : Act) (w : World), ops.toList.drop i = rest → opsRun P rest a w (Q .normal) → wpOps P ops Q (List.range' i rest.length) a w := by
    intro rest
    induction rest with
    | nil => intro i a w _ h; exact h
    | cons o rest ih =>
      intro i a w hd h
      have hoi : ops[i]? = some o := by
        have : ops.toList[i]? = some o := by
          have := congrArg (·[0]?) hd
          simpa using this
        simpa using this
      have hd' : ops.toList.drop (i + 1) = rest := by
        have := congrArg (List.drop 1) hd
        simpa [Nat.add_comm] using this
      have hmem : o ∈ ops.toList := List.mem_of_getElem? (by simpa using hoi)
      simp only [List.length_cons, List.range'_succ, wpOps, hoi, Region.wanted, hg o hmem, if_true]
      exact .inl (OpRun.wp (OpRun.mono h fun v w' hr => ih (i + 1) _ _ hd' hr))
  have := key ops.toList 0 a w rfl h
  rw [List.range_eq_range']
  simpa using this
theorem run_move {P : Program} {o : Oper} {x : Operand} {σ : Operand → Value} {w : World} {R : Value → World → Prop} (ho : o.op = .move x ∨ o.op = .assign x) (h : R (σ x) w) : OpRun P o σ w R := by
  rcases ho with ho | ho <;> (unfold OpRun; simp [execOp, ho]; exact h)
theorem run_extract {P : Program} {o : Oper} {x : Operand} {i : Nat} {σ : Operand → Value} {w : World} {R : Value → World → Prop} {vs : Array Value} {v : Value} (ho : o.op = .extract x i) (hx : σ x = .tuple vs) (hv : vs[i]? = some v) (h : R v w) : OpRun P o σ w R := by
  unfold OpRun
  simp [execOp, ho, hx, Instr.extract, hv]
  exact h

/-! ### A block that no name has is written -/
theorem MR.poke {C : Ctx} {E : Env} {m : Mem} {U : Nat → Prop} (h : MR C E m U) {k : Nat} {w' : World} (hno : ¬ owns E m k) (hni : ¬ E.imm k) (hk : C.w0.heap.size ≤ k) (hos : w'.os = E.w.os) (htape : w'.tape = E.w.tape) (hout : w'.output = E.w.output) (hsz : w'.heap.size = E.w.heap.size)
    (hoth : ∀ j, j ≠ k → w'.heap[j]? = E.w.heap[j]?) : MR C { E with w := w' } m U ∧ Ext E { E with w := w' } := by
  have hx : Ext E { E with w := w' } := ⟨fun _ _ h => h, fun j hj => ⟨hj, hoth j (fun e => hni (e ▸ hj))⟩⟩
  refine ⟨⟨?_, fun b => ?_, fun j hj => ?_, h.inj, fun j hj => ?_, h.immI, h.nx⟩, hx⟩
  · exact h.below.trans (.of ⟨hos, htape, hout, Nat.le_of_eq hsz.symm, fun j hj => hoth j (by omega)⟩)
  · refine (h.blocks b).frame hx fun bt j hb hj hl => hoth j fun e => hno ?_
    subst e; exact ⟨b, bt, hl, hb, hj⟩
  · obtain ⟨h1, h2⟩ := h.own j hj
    exact ⟨by simpa [hsz] using h1, h2⟩
  · have := h.immLt j hj
    simpa [hsz] using this
/-- Where the slot is not told of, whatever stands there. -/
theorem Fit.junk {C : Ctx} {n : Nat} {U : Nat → Prop} {e : Env} {s : AS} {a : Act} (h : Fit C n U e s a) {d : Nat} (hj : s.slots d = .junk) (v : Value) : Fit C n U e s (a.put (some d) v) := by
  refine ⟨h.defers, by simp [Act.put, h.size], fun i => ?_, h.mem⟩
  by_cases hi : i = d
  · subst hi; rw [hj]; trivial
  · have : (a.put (some d) v).tmps.getD i undef = a.tmps.getD i undef := by
      simp only [Act.put]
      rw [Array.getD_eq_getD_getElem?, Array.getElem?_setIfInBounds, if_neg (fun e => hi e.symm), ← Array.getD_eq_getD_getElem?]
    rw [this]; exact h.slots i
theorem eval_put {a : Act} {d t : Nat} {v : Value} (hd : d < a.tmps.size) : (a.put (some d) v).eval (.tmp t) = if t = d then v else a.eval (.tmp t) := by
  simp only [Act.eval, Act.put]
  by_cases h : t = d
  · subst h
    rw [if_pos rfl, Array.getD_eq_getD_getElem?, Array.getElem?_setIfInBounds, if_pos rfl, if_pos hd]; rfl
  · rw [if_neg h, Array.getD_eq_getD_getElem?, Array.getElem?_setIfInBounds, if_neg (fun e => h e.symm), ← Array.getD_eq_getD_getElem?]
theorem size_put {a : Act} {d : Option Nat} {v : Value} : (a.put d v).tmps.size = a.tmps.size := by cases d <;> simp [Act.put]

/-- A name for a block that the state doesn't tell of. -/
theorem MR.name0 {C : Ctx} {E : Env} {m : Mem} {U : Nat → Prop} (h : MR C E m U) {nx : Nat} (hN : ¬ U nx) (bt : BT) : MR C (E.name nx bt) m (fun b => U b ∨ b = nx) ∧ Ext E (E.name nx bt) := by
  have hx := Ext.name h hN bt
  have hfresh := h.fresh hN
  have hdead : ¬ live (m nx) := fun hl => by
    have hb := h.blocks nx
    cases hm : m nx with
    | var t v => rw [hm] at hb; obtain ⟨_, k, cs, el, h1, _⟩ := hb; rw [hfresh] at h1; cases h1
    | slab t xs => rw [hm] at hb; obtain ⟨_, h1 | ⟨k, cap, cs, el, css, rest, h1, _⟩⟩ := hb; (· rw [hfresh] at h1; cases h1.1); (· rw [hfresh] at h1; cases h1)
    | map k v l => rw [hm] at hb; obtain ⟨base, es, clock, h1, _⟩ := hb; rw [hfresh] at h1; cases h1
    | _ => rw [hm] at hl; exact hl
  have hname : ∀ b, b ≠ nx → (E.name nx bt).ρ b = E.ρ b := fun b hb => by simp [Env.name, hb]
  refine ⟨⟨h.below, fun b => (h.blocks b).frame hx fun _ _ _ _ _ => rfl, fun k hk => ?_, fun b b' c c' k h1 h2 h3 h4 h5 h6 => ?_, h.immLt, h.immI, fun b c hc => ?_⟩, hx⟩
  · obtain ⟨b, c, h1, h2, h3⟩ := hk
    have hb : b ≠ nx := fun e => hdead (e ▸ h1)
    rw [hname b hb] at h2
    exact h.own k ⟨b, c, h1, h2, h3⟩
  · have hb : b ≠ nx := fun e => hdead (e ▸ h1)
    have hb' : b' ≠ nx := fun e => hdead (e ▸ h2)
    rw [hname b hb] at h3
    rw [hname b' hb'] at h4
    exact h.inj b b' c c' k h1 h2 h3 h4 h5 h6
  · by_cases hb : b = nx
    · exact .inr hb
    · rw [hname b hb] at hc; exact .inl (h.nx b c hc)
theorem owns_name0 {C : Ctx} {E : Env} {m : Mem} {U : Nat → Prop} (h : MR C E m U) {nx : Nat} (hN : ¬ U nx) {bt : BT} {w : World} {j : Nat} (ho : owns { (E.name nx bt) with w := w } m j) : owns E m j := by
  obtain ⟨b, c, h1, h2, h3⟩ := ho
  by_cases hb : b = nx
  · subst hb
    exfalso
    have hr := h.blocks b
    have hfresh := h.fresh hN
    cases hm : m b with
    | var t v => rw [hm] at hr; obtain ⟨_, k, cs, el, g1, _⟩ := hr; rw [hfresh] at g1; cases g1
    | slab t xs => rw [hm] at hr; obtain ⟨_, g1 | ⟨k, cap, cs, el, css, rest, g1, _⟩⟩ := hr; (· rw [hfresh] at g1; cases g1.1); (· rw [hfresh] at g1; cases g1)
    | map k v l => rw [hm] at hr; obtain ⟨base, es, clock, g1, _⟩ := hr; rw [hfresh] at g1; cases g1
    | _ => rw [hm] at h1; exact h1
  · refine ⟨b, c, h1, ?_, h3⟩
    simpa [Env.name, hb] using h2
theorem heap_setBlock {w : World} {k j : Nat} {o : Obj} : (setBlock w k o).heap[j]? = if j = k then (if k < w.heap.size then some o else none) else w.heap[j]? := by
  simp only [setBlock, Array.getElem?_setIfInBounds]
  by_cases h : j = k
  · subst h; simp
  · rw [if_neg (fun e => h e.symm), if_neg h]
theorem size_setBlock (w : World) (k : Nat) (o : Obj) : (setBlock w k o).heap.size = w.heap.size := by simp [setBlock]

theorem ext_perm {n : Nat} {J : List Nat} (hJ : J.Nodup) (hl : ∀ q ∈ J, q < n) : ∃ r, (J ++ r).Perm (List.range n) := by
  refine ⟨(List.range n).filter fun q => !J.contains q, ?_⟩
  refine (List.perm_ext_iff_of_nodup ?_ List.nodup_range).2 fun q => ?_
  · rw [List.nodup_append]
    refine ⟨hJ, List.nodup_range.sublist List.filter_sublist, fun x hx y hy he => ?_⟩
    subst he
    rw [List.mem_filter] at hy
    have := hy.2
    simp [hx] at this
  · rw [List.mem_append, List.mem_filter, List.mem_range]
    constructor
    · rintro (h | h)
      · exact hl q h
      · exact h.1
    · intro h
      by_cases hq : q ∈ J
      · exact .inl hq
      · exact .inr ⟨h, by simp [hq]⟩
theorem map_getD {α : Type} (l : List α) (z : α) : (List.range l.length).map (fun q => l.getD q z) = l := by
  apply List.ext_getElem
  · simp
  · intro i h1 h2
    simp [List.getElem?_eq_getElem h2]
theorem born_inj {es : Array MapEntry} (hnd : (es.toList.map (·.born)).Nodup) {q i : Nat} (hq : q < es.size) (hi : i < es.size) (h : (es[q]!).born = (es[i]!).born) : q = i := by
  have h1 : (es.toList.map (·.born))[q]? = (es.toList.map (·.born))[i]? := by
    rw [List.getElem?_map, List.getElem?_map, Array.getElem?_toList, Array.getElem?_toList, Array.getElem?_eq_getElem hq, Array.getElem?_eq_getElem hi]
    rw [getElem!_pos es q hq, getElem!_pos es i hi] at h
    simp [h]
  exact (List.getElem?_inj (by simpa using hq) hnd).1 h1
section
variable {P : Program} {C : Ctx} {n : Nat}
/-- The round's end. -/
def rngK (D : SD) (base room : Nat) (r : AExit) (s : AS) : Option D.den :=
  match r with
  | .normal => match Nat.ble s.nx (base + room) with
    | true => rdD D base s
    | false => none
  | _ => none
/-- A loop over a map whose rounds take the key. -/
theorem range_wp {r10 r11 r12 : Array Oper} {i10 i11 i12 j k dm d25 d26 d27 d28 d29 d30 d9 tm : Nat} {rest : Code} {o0 oR oN oX oE oY oA : Oper} {kid eid : Nat}
    (e10 : r10.toList = [o0, oR]) (e11 : r11.toList = [oN, oX]) (e12 : r12.toList = [oE, oY, oA]) (hgs : ∀ o ∈ [o0, oR, oN, oX, oE, oY, oA], o.guard = none)
    (p0 : o0.op = .move (.tmp dm)) (q0 : o0.dst = some d25) (pR : oR.op = .range tm (.tmp d25)) (qR : oR.dst = some d26) (pN : oN.op = .next (.tmp d26) false) (qN : oN.dst = some d27) (pX : oX.op = .extract (.tmp d27) 0) (qX : oX.dst = some d28)
    (pE : oE.op = .entry (.tmp d26)) (qE : oE.dst = some d29) (pY : oY.op = .extract (.tmp d29) 0) (qY : oY.dst = some d30) (pA : oA.op = .assign (.tmp d30)) (qA : oA.dst = some d9)
    (hn : d25 < n ∧ d26 < n ∧ d27 < n ∧ d28 < n ∧ d29 < n ∧ d30 < n ∧ d9 < n) (hne : d26 ≠ d27 ∧ d26 ≠ d28) (htm : P.underlying tm = some (.map kid eid))
    {D : SD} {s : AS} {b room : Nat} {kt vt : Ty} {l : List (kt.den × vt.den)} (dat : List (kt.den × vt.den) → D.den) (hslot : s.slots dm = .mp b) (hmem : s.mem b = .map kt vt l)
    (hstart : rdD D (s.nx + 1) ⟨putD (putD s.slots (some d25) (.mp b)) (some d26) (.ptr s.nx []), (dropS (fun x => Nat.beq x b) s).mem, s.nx + 1⟩ = some (dat []))
    {ev : (R : Type) → AS → (AExit → AS → Option R) → Option R} (hrest : EvOK P C n rest ev)
    (hround : ∀ (done : List (kt.den × vt.den)) (x : kt.den × vt.den), (∃ r, (done ++ x :: r).Perm l) → ev D.den ⟨putD (putD (mkD D (s.nx + 1) (s.nx + 1 + D.rows) (dat done)).slots (some d30) (.val kt x.1)) (some d9) (.val kt x.1), (mkD D (s.nx + 1) (s.nx + 1 + D.rows) (dat done)).mem, s.nx + 1 + D.rows⟩ (rngK D (s.nx + 1) room) = some (dat (done ++ [x])))
    (hjunk : ∀ y, (mkD D (s.nx + 1) (s.nx + 1 + D.rows) y).slots d27 = .junk ∧ (mkD D (s.nx + 1) (s.nx + 1 + D.rows) y).slots d28 = .junk ∧ (mkD D (s.nx + 1) (s.nx + 1 + D.rows) y).slots d29 = .junk)
    (h26 : ∀ y, (mkD D (s.nx + 1) (s.nx + 1 + D.rows) y).slots d26 = .ptr s.nx []) (hroom : D.rows ≤ room)
    {U : Nat → Prop} {e : Env} {a : Act} {Q : Exit → Act → World → Prop} (hu : free U s.nx (s.nx + 1 + room)) (hf : Fit C n U e s a)
    (hq : ∀ π e' a', π.Perm l → Fit C n (taken U s.nx (s.nx + 1 + D.rows)) e' (keepS (fun x => Nat.beq x b) s.mem (mkD D (s.nx + 1) (s.nx + 1 + D.rows) (dat π))) a' → Ext e e' → Frm e s.mem e' (keepS (fun x => Nat.beq x b) s.mem (mkD D (s.nx + 1) (s.nx + 1 + D.rows) (dat π))).mem → Q .normal a' e'.w) :
    (Code.seq (.region i10 r10 false) (.block j (.loop (.seq (.region i11 r11 false) (.seq (.cond (.tmp d28) .skip (.exit j)) (.block k (.seq (.region i12 r12 false) rest))))))).wp P Q a e.w := by
  have hbl := hf.mem.blocks b
  rw [hmem] at hbl
  obtain ⟨kb, es, clock, hρb, hkb, hall, hborn, hnd⟩ := hbl
  have hva : a.eval (.tmp dm) = .map (some kb) := by
    have := hf.slots dm
    rw [hslot] at this
    obtain ⟨cs, h1, k', x', y', h2, rfl⟩ := this
    rw [hρb] at h2
    cases h2
    exact h1
  have hNU : ¬ U s.nx := hu s.nx (Nat.le_refl _) (by omega)
  have hf0 := hf.drop (fun x => Nat.beq x b)
  have hm0 : MR C e (dropS (fun x => Nat.beq x b) s).mem U := hf0.mem
  have hlen : l.length = es.size := by have := hall.length; simpa using this
  -- the iterator
  refine wp_seq (region_run (fun o ho => hgs o (by rw [e10] at ho; simp at ho ⊢; rcases ho with h | h <;> simp [h])) ?_)
  rw [e10]
  refine run_move (.inl p0) ?_
  rw [hva, q0]
  have hsz : (a.put (some d25) (.map (some kb))).tmps.size = n := by rw [size_put]; exact hf.size
  have hev25 : (a.put (some d25) (.map (some kb))).eval (.tmp d25) = .map (some kb) := by rw [eval_put (by rw [hf.size]; exact hn.1), if_pos rfl]
  have hrun : OpRun P oR (a.put (some d25) (.map (some kb))).eval e.w fun v w' => v = .pointer (some ⟨e.w.heap.size, 0, none⟩) ∧ w' = e.w.alloc (.mapIter (some kb) clock #[] clock) := by
    unfold OpRun
    simp only [execOp, pR, hev25]
    have := run_range_map e.w tm kid eid kb es clock htm hkb
    simp [this, Result.andThen]
  refine OpRun.mono hrun ?_
  rintro v w' ⟨rfl, rfl⟩
  rw [qR]
  show (Code.block j _).wp P Q ((a.put (some d25) (.map (some kb))).put (some d26) (.pointer (some ⟨e.w.heap.size, 0, none⟩))) (e.w.alloc (.mapIter (some kb) clock #[] clock))
  have hik : ∀ w : World, (w.alloc (.mapIter (some kb) clock #[] clock)).heap.size = w.heap.size + 1 := fun w => by simp
  obtain ⟨hmg, hxg⟩ := hm0.grow' (w' := e.w.alloc (.mapIter (some kb) clock #[] clock)) (.of ((Below.refl _ e.w).alloc (Nat.le_refl _) _))
  obtain ⟨hm1, hx1⟩ := hmg.name0 hNU (.var e.w.heap.size .bool)
  generalize he1 : ({ e with w := e.w.alloc (.mapIter (some kb) clock #[] clock) } : Env).name s.nx (.var e.w.heap.size .bool) = e1 at hm1 hx1
  have hw1 : e1.w = e.w.alloc (.mapIter (some kb) clock #[] clock) := by rw [← he1]; rfl
  have hi1 : e1.imm = e.imm := by rw [← he1]; rfl
  have hρ1 : e1.ρ s.nx = some (.var e.w.heap.size .bool) := by rw [← he1]; simp [Env.name]
  have hown1 : ∀ (w : World) (q : Nat), owns { e1 with w := w } (dropS (fun x => Nat.beq x b) s).mem q → owns e (dropS (fun x => Nat.beq x b) s).mem q := fun w q ho => by
    rw [← he1] at ho
    have := owns_name0 (w := w) hmg hNU ho
    exact this
  have hxe : Ext e e1 := hxg.trans hx1
  -- the frame
  have hva2 : RV e1 (.mp b) (.map (some kb)) := ⟨[.map (some kb)], rfl, kb, kt, vt, hxe.ρ _ _ hρb, rfl⟩
  have hptr : RV e1 (.ptr s.nx []) (.pointer (some ⟨e.w.heap.size, 0, none⟩)) := ⟨_, rfl, .var e.w.heap.size .bool, e.w.heap.size, .bool, 0, hρ1, rfl, ⟨rfl, trivial⟩, rfl⟩
  have hf1 : Fit C n (fun x => U x ∨ x = s.nx) e1 (putDst ⟨(dropS (fun x => Nat.beq x b) s).slots, (dropS (fun x => Nat.beq x b) s).mem, s.nx + 1⟩ (some d25) (.mp b)) (a.put (some d25) (.map (some kb))) := hf0.put (by simpa using hn.1) hxe hm1 hva2
  have hf2 : Fit C n (fun x => U x ∨ x = s.nx) e1 ⟨putD (putD s.slots (some d25) (.mp b)) (some d26) (.ptr s.nx []), (dropS (fun x => Nat.beq x b) s).mem, s.nx + 1⟩ ((a.put (some d25) (.map (some kb))).put (some d26) (.pointer (some ⟨e.w.heap.size, 0, none⟩))) := by
    exact hf1.put (d := some d26) (nx' := s.nx + 1) (by simpa using hn.2.1) (Ext.refl e1) hm1 hptr
  have hfreeB : free (fun x => U x ∨ x = s.nx) (s.nx + 1) (s.nx + 1 + D.rows) := fun x h1 h2 h3 => by
    rcases h3 with h3 | h3
    · exact hu x (by omega) (by omega) h3
    · omega
  obtain ⟨e2, hw2, hx2, hfr2, hf3⟩ := refit hf2 (U0 := fun x => U x ∨ x = s.nx) (fun x hx => .inl hx) (hm1.nx) hfreeB (Ext.refl e1) (Frm.refl e1 _) hstart (s.nx + 1 + D.rows)
  -- what stays
  have hikn : ∀ q, owns e (dropS (fun x => Nat.beq x b) s).mem q → q < e.w.heap.size ∧ q ≠ kb := fun q ho => by
    refine ⟨(hm0.own q ho).1, fun e' => ?_⟩
    obtain ⟨c, bt, h1, h2, h3⟩ := ho
    subst e'
    have hcb : c ≠ b := fun e => by subst e; simp [dropS] at h1; exact h1
    have hc1 : live (s.mem c) := by
      have : (dropS (fun x => Nat.beq x b) s).mem c = s.mem c := by
        have : Nat.beq c b = false := by
          cases hb : Nat.beq c b with
          | true => exact absurd (Nat.eq_of_beq_eq_true hb) hcb
          | false => rfl
        simp [dropS, this]
      rwa [this] at h1
    exact hcb (hf.mem.inj c b bt _ q hc1 (by rw [hmem]; trivial) h2 hρb h3 rfl)
  have hkblt : kb < e.w.heap.size := (Array.getElem?_eq_some_iff.1 hkb).1
  -- the loop
  refine wp_block (LW.loop ?_)
  have main : ∀ (m : Nat) (I : List Nat) (seen : Array Nat) (c0 : Nat) (ec : Env) (ac : Act), l.length - I.length = m → I.Nodup → (∀ q ∈ I, q < l.length) → seen.toList = I.map (fun q => (es[q]!).born) → clock ≤ c0 →
      Ext { e1 with w := setBlock e1.w e.w.heap.size (.mapIter (some kb) clock seen c0) } ec → Frm { e1 with w := setBlock e1.w e.w.heap.size (.mapIter (some kb) clock seen c0) } (dropS (fun x => Nat.beq x b) s).mem ec (mkD D (s.nx + 1) (s.nx + 1 + D.rows) (dat (I.map fun q => l.getD q (kt.zero, vt.zero)))).mem →
      Fit C n (taken (fun x => U x ∨ x = s.nx) (s.nx + 1) (s.nx + 1 + D.rows)) ec (mkD D (s.nx + 1) (s.nx + 1 + D.rows) (dat (I.map fun q => l.getD q (kt.zero, vt.zero)))) ac →
      LW P (.seq (.region i11 r11 false) (.seq (.cond (.tmp d28) .skip (.exit j)) (.block k (.seq (.region i12 r12 false) rest)))) (Exit.inBlock j Q) ac ec.w := by
    intro m
    induction m using Nat.strongRecOn with
    | _ m ih =>
    intro I seen c0 ec ac hm hI hIl hseen hc0 hxc hfrc hfc
    have hszit : (setBlock e1.w e.w.heap.size (.mapIter (some kb) clock seen c0)).heap.size = e.w.heap.size + 1 := by rw [size_setBlock, hw1]; simp
    have hnoI : ∀ q, owns { e1 with w := setBlock e1.w e.w.heap.size (.mapIter (some kb) clock seen c0) } (dropS (fun x => Nat.beq x b) s).mem q → q < e.w.heap.size ∧ q ≠ kb := fun q ho => hikn q (hown1 _ q ho)
    have hheap : ∀ q, q ≤ e.w.heap.size → ¬ owns e (dropS (fun x => Nat.beq x b) s).mem q → ec.w.heap[q]? = (setBlock e1.w e.w.heap.size (.mapIter (some kb) clock seen c0)).heap[q]? := fun q hq hno => hfrc.heap q (by show q < (setBlock e1.w _ _).heap.size; rw [hszit]; omega) (fun ho => hno (hown1 _ q ho))
    have hikc : ec.w.heap[e.w.heap.size]? = some (.mapIter (some kb) clock seen c0) := by
      rw [hheap _ (Nat.le_refl _) (fun ho => absurd (hikn _ ho).1 (Nat.lt_irrefl _)), heap_setBlock, if_pos rfl, if_pos (by rw [hw1]; simp)]
    have hkbc : ec.w.heap[kb]? = some (.map es clock) := by
      rw [hheap _ (Nat.le_of_lt hkblt) (fun ho => (hikn _ ho).2 rfl), heap_setBlock, if_neg (by omega), hw1]
      exact (Below.heap_alloc _ _ _ hkblt).trans hkb
    have hszc : e.w.heap.size < ec.w.heap.size := (Array.getElem?_eq_some_iff.1 hikc).1
    have hnoc : ¬ owns ec (mkD D (s.nx + 1) (s.nx + 1 + D.rows) (dat (I.map fun q => l.getD q (kt.zero, vt.zero)))).mem e.w.heap.size := fun ho => by
      rcases hfrc.own _ ho with h | h
      · exact absurd (hnoI _ h).1 (Nat.lt_irrefl _)
      · have h : (setBlock e1.w e.w.heap.size (.mapIter (some kb) clock seen c0)).heap.size ≤ e.w.heap.size := h
        rw [hszit] at h; omega
    have hnic : ¬ ec.imm e.w.heap.size := fun hi => by
      rcases hfrc.imm _ hi with h | h | h
      · have h : e1.imm e.w.heap.size := h
        rw [hi1] at h
        exact absurd (hm0.immLt _ h) (Nat.lt_irrefl _)
      · exact absurd (hnoI _ h).1 (Nat.lt_irrefl _)
      · have h : (setBlock e1.w e.w.heap.size (.mapIter (some kb) clock seen c0)).heap.size ≤ e.w.heap.size := h
        rw [hszit] at h; omega
    have hp26 : ac.eval (.tmp d26) = .pointer (some ⟨e.w.heap.size, 0, none⟩) := by
      have := hfc.slots d26
      rw [h26] at this
      obtain ⟨cs, hv, bt, k', u, o, g1, g2, g3, rfl⟩ := this
      have g4 : ec.ρ s.nx = some (.var e.w.heap.size .bool) := hxc.ρ _ _ hρ1
      rw [g4] at g1
      cases g1
      cases g2
      obtain ⟨g5, _⟩ := g3
      simp only [tyAt, Option.some.injEq, Prod.mk.injEq] at g5
      rw [show ac.eval (.tmp d26) = ac.tmps.getD d26 undef from rfl, hv, ← g5.2]
      rfl
    have hxec : Ext e ec := by
      refine ⟨fun c bt hc => hxc.ρ c bt (hxe.ρ c bt hc), fun q hq => ?_⟩
      have h1 : ({ e1 with w := setBlock e1.w e.w.heap.size (.mapIter (some kb) clock seen c0) } : Env).imm q := by show e1.imm q; rw [hi1]; exact hq
      obtain ⟨h2, h3⟩ := hxc.imm q h1
      refine ⟨h2, h3.trans ?_⟩
      have hlt := hm0.immLt q hq
      rw [heap_setBlock, if_neg (by omega), hw1]
      exact Below.heap_alloc _ _ _ hlt
    have hszac : ac.tmps.size = n := hfc.size
    refine LW.round (wp_seq (region_run (fun o ho => hgs o (by rw [e11] at ho; simp at ho ⊢; rcases ho with h | h <;> simp [h])) ?_))
    rw [e11]
    have hborn' : ∀ x ∈ es.toList, x.born < clock := fun x hx => hborn x (by simpa using hx)
    rcases run_next_at (P := P) ec.w oN.type e.w.heap.size kb clock c0 seen es clock hikc hkbc hborn' hc0 with ⟨hnone, hrunN⟩ | ⟨en, hen, wn, hwn, hrunN⟩
    · -- nothing is left
      have hrN : OpRun P oN ac.eval ec.w fun v w' => v = .tuple #[.bool false] ∧ w' = ec.w := by
        unfold OpRun
        simp [execOp, pN, hp26, hrunN, Result.andThen]
      refine OpRun.mono hrN ?_
      rintro v w' ⟨rfl, rfl⟩
      rw [qN]
      have h27 : (ac.put (some d27) (.tuple #[.bool false])).eval (.tmp d27) = .tuple #[.bool false] := by rw [eval_put (by rw [hszac]; exact hn.2.2.1), if_pos rfl]
      refine run_extract pX h27 (v := .bool false) (by simp) ?_
      rw [qX]
      have h28 : ((ac.put (some d27) (.tuple #[.bool false])).put (some d28) (.bool false)).eval (.tmp d28) = .bool false := by rw [eval_put (by rw [size_put, hszac]; exact hn.2.2.2.1), if_pos rfl]
      refine wp_seq (wp_cond_false h28 (wp_exit ?_))
      show Exit.inBlock j Q (.exit j) _ _
      simp only [Exit.inBlock, if_true]
      have hperm : (I.map fun q => l.getD q (kt.zero, vt.zero)).Perm l := by
        have h1 : I.Perm (List.range l.length) := by
          refine (List.perm_ext_iff_of_nodup hI List.nodup_range).2 fun q => ?_
          rw [List.mem_range]
          refine ⟨hIl q, fun hq => ?_⟩
          have hqs : q < es.size := by omega
          have h2 : seen.contains (es[q]!).born = true := by
            cases hc : seen.contains (es[q]!).born with
            | true => rfl
            | false =>
              exfalso
              have hm1 : es[q]! ∈ (leftOf es seen).toList := by
                unfold leftOf
                rw [Array.mem_toList_iff, Array.mem_filter]
                exact ⟨by rw [getElem!_pos es q hqs]; exact Array.getElem_mem hqs, by rw [hc]; rfl⟩
              have : (leftOf es seen).toList = [] := by
                rw [← List.length_eq_zero_iff, Array.length_toList]; exact hnone
              rw [this] at hm1
              exact absurd hm1 (by simp)
          have h3 : (es[q]!).born ∈ seen.toList := by
            rw [Array.contains_iff_mem] at h2
            exact Array.mem_toList_iff.2 h2
          rw [hseen, List.mem_map] at h3
          obtain ⟨q', hq', he⟩ := h3
          have := born_inj hnd (by have := hIl q' hq'; omega) hqs he
          subst this
          exact hq'
        have h2 := h1.map fun q => l.getD q (kt.zero, vt.zero)
        rwa [map_getD] at h2
      have hfj := (hfc.junk (hjunk _).1 (.tuple #[.bool false])).junk (hjunk _).2.1 (.bool false)
      have hfrm : Frm e (dropS (fun x => Nat.beq x b) s).mem ec (mkD D (s.nx + 1) (s.nx + 1 + D.rows) (dat (I.map fun q => l.getD q (kt.zero, vt.zero)))).mem := by
        refine ⟨fun q hq hno => ?_, by omega, fun q hq => ?_, fun q hq => ?_⟩
        · rw [hheap q (Nat.le_of_lt hq) hno, heap_setBlock, if_neg (by omega), hw1]
          exact Below.heap_alloc _ _ _ hq
        · rcases hfrc.own _ hq with h | h
          · exact .inl (hown1 _ _ h)
          · have h : (setBlock e1.w e.w.heap.size (.mapIter (some kb) clock seen c0)).heap.size ≤ q := h
            rw [hszit] at h; exact .inr (by omega)
        · rcases hfrc.imm _ hq with h | h | h
          · have h : e1.imm q := h
            rw [hi1] at h; exact .inl h
          · exact .inr (.inl (hown1 _ _ h))
          · have h : (setBlock e1.w e.w.heap.size (.mapIter (some kb) clock seen c0)).heap.size ≤ q := h
            rw [hszit] at h; exact .inr (.inr (by omega))
      obtain ⟨k1, k2⟩ := hf.keep (fun x => Nat.beq x b) hxec hfj hfrm
      exact hq _ ec _ hperm (k1.widen fun x hx => by
        rcases hx with (hx | hx) | hx
        · exact .inl hx
        · exact .inr (by omega)
        · exact .inr (by omega)) hxec k2
    · -- an entry has come
      have hmem2 : en ∈ es.toList ∧ seen.contains en.born = false := by
        unfold leftOf at hen
        rw [Array.mem_toList_iff, Array.mem_filter] at hen
        exact ⟨Array.mem_toList_iff.2 hen.1, by simpa using hen.2⟩
      obtain ⟨i, hi⟩ := List.getElem?_of_mem hmem2.1
      have his : i < es.size := by simpa using (List.getElem?_eq_some_iff.1 hi).1
      have hei : es[i]! = en := by
        rw [getElem!_pos es i his]
        rw [Array.getElem?_toList, Array.getElem?_eq_getElem his] at hi
        exact Option.some.inj hi
      have hil : i < l.length := by omega
      have hiI : i ∉ I := fun hc => by
        have h1 : en.born ∈ seen.toList := by rw [hseen, List.mem_map]; exact ⟨i, hc, by rw [hei]⟩
        have h2 : seen.contains en.born = true := by rw [Array.contains_iff_mem]; exact Array.mem_toList_iff.1 h1
        rw [hmem2.2] at h2; cases h2
      have hI2 : (I ++ [i]).Nodup := by
        rw [List.nodup_append]
        exact ⟨hI, by simp, fun x hx y hy he => by simp at hy; subst hy; subst he; exact hiI hx⟩
      have hIl2 : ∀ q ∈ I ++ [i], q < l.length := fun q hq => by
        rcases List.mem_append.1 hq with h | h
        · exact hIl q h
        · simp at h; omega
      obtain ⟨J, hJ⟩ := ext_perm hI2 hIl2
      have hJl : I.length + 1 ≤ l.length := by
        have := hJ.length_eq
        simp at this
        omega
      have hxg2 : l.getD i (kt.zero, vt.zero) = l[i] := by rw [List.getD_eq_getElem?_getD, List.getElem?_eq_getElem hil]; rfl
      have hdone : (I ++ [i]).map (fun q => l.getD q (kt.zero, vt.zero)) = I.map (fun q => l.getD q (kt.zero, vt.zero)) ++ [l.getD i (kt.zero, vt.zero)] := by simp
      have hpl : ∃ r, (I.map (fun q => l.getD q (kt.zero, vt.zero)) ++ l.getD i (kt.zero, vt.zero) :: r).Perm l := by
        refine ⟨J.map fun q => l.getD q (kt.zero, vt.zero), ?_⟩
        have h2 := hJ.map fun q => l.getD q (kt.zero, vt.zero)
        rw [map_getD] at h2
        simpa using h2
      obtain ⟨en', hen', hre⟩ := hall.get i (l.getD i (kt.zero, vt.zero)) (by rw [hxg2]; exact List.getElem?_eq_getElem hil)
      rw [hi] at hen'
      cases hen'
      obtain ⟨⟨ck, hkey, hrk⟩, _⟩ := hre
      -- the step
      have hrN : OpRun P oN ac.eval ec.w fun v w' => v = .tuple #[.bool true, en.key, en.val] ∧ w' = setBlock wn e.w.heap.size (.mapIter (some kb) clock (seen.push en.born) clock) := by
        unfold OpRun
        simp [execOp, pN, hp26, hrunN, Result.andThen]
      refine OpRun.mono hrN ?_
      rintro v w' ⟨rfl, rfl⟩
      rw [qN]
      have hwh : wn.heap = ec.w.heap := by rcases hwn with rfl | rfl <;> rfl
      have hwf : wn.os = ec.w.os ∧ wn.tape = ec.w.tape ∧ wn.output = ec.w.output := by rcases hwn with rfl | rfl <;> exact ⟨rfl, rfl, rfl⟩
      obtain ⟨hmp, hxp⟩ := hfc.mem.poke (k := e.w.heap.size) (w' := setBlock wn e.w.heap.size (.mapIter (some kb) clock (seen.push en.born) clock)) hnoc hnic hm0.below.size hwf.1 hwf.2.1 hwf.2.2 (by rw [size_setBlock, hwh]) (fun q hq => by rw [heap_setBlock, if_neg hq, hwh])
      generalize hec' : ({ ec with w := setBlock wn e.w.heap.size (.mapIter (some kb) clock (seen.push en.born) clock) } : Env) = ec' at hmp hxp
      have hwc' : setBlock wn e.w.heap.size (.mapIter (some kb) clock (seen.push en.born) clock) = ec'.w := by rw [← hec']
      rw [hwc']
      have hfc' : Fit C n (taken (fun x => U x ∨ x = s.nx) (s.nx + 1) (s.nx + 1 + D.rows)) ec' (mkD D (s.nx + 1) (s.nx + 1 + D.rows) (dat (I.map fun q => l.getD q (kt.zero, vt.zero)))) ac := ⟨hfc.defers, hfc.size, fun q => (hfc.slots q).ext hxp, hmp⟩
      have h27 : (ac.put (some d27) (.tuple #[.bool true, en.key, en.val])).eval (.tmp d27) = .tuple #[.bool true, en.key, en.val] := by rw [eval_put (by rw [hszac]; exact hn.2.2.1), if_pos rfl]
      refine run_extract pX h27 (v := .bool true) (by simp) ?_
      rw [qX]
      have h28 : ((ac.put (some d27) (.tuple #[.bool true, en.key, en.val])).put (some d28) (.bool true)).eval (.tmp d28) = .bool true := by rw [eval_put (by rw [size_put, hszac]; exact hn.2.2.2.1), if_pos rfl]
      have hp26' : ((ac.put (some d27) (.tuple #[.bool true, en.key, en.val])).put (some d28) (.bool true)).eval (.tmp d26) = .pointer (some ⟨e.w.heap.size, 0, none⟩) := by
        rw [eval_put (by rw [size_put, hszac]; exact hn.2.2.2.1), if_neg hne.2, eval_put (by rw [hszac]; exact hn.2.2.1), if_neg hne.1, hp26]
      generalize ha3 : (ac.put (some d27) (.tuple #[.bool true, en.key, en.val])).put (some d28) (.bool true) = a3 at h28 hp26'
      have hf3' : Fit C n (taken (fun x => U x ∨ x = s.nx) (s.nx + 1) (s.nx + 1 + D.rows)) ec' (mkD D (s.nx + 1) (s.nx + 1 + D.rows) (dat (I.map fun q => l.getD q (kt.zero, vt.zero)))) a3 := by
        rw [← ha3]
        exact (hfc'.junk (hjunk _).1 _).junk (hjunk _).2.1 _
      have hsz3 : a3.tmps.size = n := hf3'.size
      show (Code.seq (.cond (.tmp d28) .skip (.exit j)) _).wp P _ _ _
      refine wp_seq (wp_cond_true h28 (wp_skip ?_))
      refine wp_block (wp_seq (region_run (fun o ho => hgs o (by rw [e12] at ho; simp at ho ⊢; rcases ho with h | h | h <;> simp [h])) ?_))
      rw [e12]
      have hikc' : ec'.w.heap[e.w.heap.size]? = some (.mapIter (some kb) clock (seen.push en.born) clock) := by rw [← hwc', heap_setBlock, if_pos rfl, if_pos (by rw [hwh]; exact hszc)]
      have hkbc' : ec'.w.heap[kb]? = some (.map es clock) := by rw [← hwc', heap_setBlock, if_neg (by omega), hwh]; exact hkbc
      have hrunE := run_entry_at (P := P) ec'.w e.w.heap.size kb clock seen es clock en hikc' hkbc' hmem2.1 hnd
      have hrE : OpRun P oE a3.eval ec'.w fun v w' => v = .tuple #[en.key, en.val] ∧ w' = ec'.w := by
        unfold OpRun
        simp [execOp, pE, hp26', hrunE, Result.andThen]
      refine OpRun.mono hrE ?_
      rintro v w' ⟨rfl, rfl⟩
      rw [qE]
      have h29 : (a3.put (some d29) (.tuple #[en.key, en.val])).eval (.tmp d29) = .tuple #[en.key, en.val] := by rw [eval_put (by rw [hsz3]; exact hn.2.2.2.2.1), if_pos rfl]
      refine run_extract pY h29 (v := en.key) (by simp) ?_
      rw [qY]
      refine run_move (.inr pA) ?_
      rw [qA]
      have h30 : ((a3.put (some d29) (.tuple #[en.key, en.val])).put (some d30) en.key).eval (.tmp d30) = en.key := by rw [eval_put (by rw [size_put, hsz3]; exact hn.2.2.2.2.2.1), if_pos rfl]
      rw [h30]
      have hrv : RV ec' (.val kt (l.getD i (kt.zero, vt.zero)).1) en.key := ⟨ck, hkey, Rd.ext (hxec.trans hxp) hrk⟩
      have hf4 := hf3'.junk (hjunk _).2.2 (.tuple #[en.key, en.val])
      have hf5 := hf4.put (d := some d30) (nx' := s.nx + 1 + D.rows) (by simpa using hn.2.2.2.2.2.1) (Ext.refl ec') hf4.mem hrv
      have hf6 := hf5.put (d := some d9) (nx' := s.nx + 1 + D.rows) (by simpa using hn.2.2.2.2.2.2) (Ext.refl ec') hf5.mem hrv
      obtain ⟨r', s', ht, hk⟩ := hrest _ _ _ _ (hround _ _ hpl)
      unfold rngK at hk
      split at hk
      · split at hk
        · rename_i hble
          have hble := Nat.le_of_ble_eq_true hble
          have hle1 : s.nx + 1 + D.rows ≤ s'.nx := ht.1
          have hfree2 : free (taken (fun x => U x ∨ x = s.nx) (s.nx + 1) (s.nx + 1 + D.rows)) (s.nx + 1 + D.rows) s'.nx := fun x h1 h2 h3 => by
            rcases h3 with (h3 | h3) | h3
            · exact hu x (by omega) (by omega) h3
            · omega
            · omega
          refine ht.2 _ ec' _ _ hfree2 hf6 fun e3 a6 q1 q2 q3 => ?_
          show LW P _ (Exit.inBlock j Q) a6 e3.w
          have hxit : Ext { e1 with w := setBlock e1.w e.w.heap.size (.mapIter (some kb) clock (seen.push en.born) clock) } ec' := by
            refine ⟨fun c bt hc => hxp.ρ c bt (hxc.ρ c bt hc), fun q hq => ?_⟩
            have h1 := hxc.imm q hq
            have h2 := hxp.imm q h1.1
            refine ⟨h2.1, h2.2.trans (h1.2.trans ?_)⟩
            have hlt : q < e.w.heap.size := by
              have hq : e1.imm q := hq
              rw [hi1] at hq
              exact hm0.immLt q hq
            rw [heap_setBlock, heap_setBlock, if_neg (by omega), if_neg (by omega)]
          have hszit' : (setBlock e1.w e.w.heap.size (.mapIter (some kb) clock (seen.push en.born) clock)).heap.size = e.w.heap.size + 1 := by rw [size_setBlock, hw1]; simp
          have hfit : Frm { e1 with w := setBlock e1.w e.w.heap.size (.mapIter (some kb) clock (seen.push en.born) clock) } (dropS (fun x => Nat.beq x b) s).mem ec' (mkD D (s.nx + 1) (s.nx + 1 + D.rows) (dat (I.map fun q => l.getD q (kt.zero, vt.zero)))).mem := by
            refine ⟨fun q hq hno => ?_, ?_, fun q hq => ?_, fun q hq => ?_⟩
            · have hq : q < (setBlock e1.w e.w.heap.size (.mapIter (some kb) clock (seen.push en.born) clock)).heap.size := hq
              rw [hszit'] at hq
              by_cases hqk : q = e.w.heap.size
              · subst hqk
                rw [hikc']
                show _ = (setBlock e1.w _ _).heap[_]?
                rw [heap_setBlock, if_pos rfl, if_pos (by rw [hw1]; simp)]
              · show ec'.w.heap[q]? = (setBlock e1.w _ _).heap[q]?
                rw [← hwc', heap_setBlock, if_neg hqk, hwh, heap_setBlock, if_neg hqk]
                have := hfrc.heap q (by show q < (setBlock e1.w _ _).heap.size; rw [hszit]; omega) (fun ho => hno ho)
                rw [this]
                show (setBlock e1.w _ _).heap[q]? = _
                rw [heap_setBlock, if_neg hqk]
            · show (setBlock e1.w _ _).heap.size ≤ _
              rw [hszit', ← hwc', size_setBlock, hwh]; omega
            · have hq' : owns ec (mkD D (s.nx + 1) (s.nx + 1 + D.rows) (dat (I.map fun q => l.getD q (kt.zero, vt.zero)))).mem q := by rw [← hec'] at hq; exact hq
              rcases hfrc.own _ hq' with h | h
              · exact .inl h
              · have h : (setBlock e1.w e.w.heap.size (.mapIter (some kb) clock seen c0)).heap.size ≤ q := h
                refine .inr ?_
                show (setBlock e1.w _ _).heap.size ≤ q
                rw [hszit']; rw [hszit] at h; exact h
            · have hq' : ec.imm q := by rw [← hec'] at hq; exact hq
              rcases hfrc.imm _ hq' with h | h | h
              · exact .inl h
              · exact .inr (.inl h)
              · have h : (setBlock e1.w e.w.heap.size (.mapIter (some kb) clock seen c0)).heap.size ≤ q := h
                refine .inr (.inr ?_)
                show (setBlock e1.w _ _).heap.size ≤ q
                rw [hszit']; rw [hszit] at h; exact h
          obtain ⟨e4, p1, p2, p3, p4⟩ := refit q1 (e0 := { e1 with w := setBlock e1.w e.w.heap.size (.mapIter (some kb) clock (seen.push en.born) clock) }) (U0 := fun x => U x ∨ x = s.nx) (fun x hx => by
            rcases hx with (hx | hx) | hx
            · exact .inl hx
            · exact .inr hx.1
            · have : s.nx + 1 + D.rows ≤ x := hx.1
              exact .inr (by omega)) (fun c bt hc => hm1.nx c bt hc) hfreeB (hxit.trans q2) (hfit.trans q3) hk (s.nx + 1 + D.rows)
          rw [← p1]
          rw [← hdone] at p3 p4
          exact ih (l.length - (I ++ [i]).length) (by rw [List.length_append, List.length_singleton]; omega) (I ++ [i]) (seen.push en.born) clock e4 a6 rfl hI2 hIl2 (by simp [hseen, hei]) (Nat.le_refl _) p2 p3 p4
        · cases hk
      · cases hk
  have hset : setBlock e1.w e.w.heap.size (.mapIter (some kb) clock #[] clock) = e1.w := by
    rw [hw1]
    have hw : ∀ (w : World) (o : Obj), setBlock (w.alloc o) w.heap.size o = w.alloc o := fun w o => by
      unfold setBlock World.alloc
      congr 1
      apply Array.ext_getElem?
      intro q
      rw [Array.getElem?_setIfInBounds]
      by_cases hq : w.heap.size = q
      · subst hq; simp
      · rw [if_neg hq]
    exact hw _ _
  have hself : ({ e1 with w := setBlock e1.w e.w.heap.size (.mapIter (some kb) clock #[] clock) } : Env) = e1 := by rw [hset]
  have hstep := main l.length [] #[] clock e2 ((a.put (some d25) (.map (some kb))).put (some d26) (.pointer (some ⟨e.w.heap.size, 0, none⟩))) (by simp) List.nodup_nil (by simp) rfl (Nat.le_refl _) (by rw [hself]; exact hx2) (by rw [hself]; exact hfr2) hf3
  rw [hw2, hw1] at hstep
  exact hstep
end
end Go.Co
namespace Go.Co
open Go.RowKit
/-! ### Pieces by their first region's number -/
def hits (id : Nat) : Code → List Code
  | .seq a b => match Nat.beq (firstReg a) id with | true => [.seq a b] | false => hits id a ++ hits id b
  | .cond _ x y => hits id x ++ hits id y
  | .block _ b => hits id b
  | .loop b => hits id b
  | _ => []
def regOps (id : Nat) : Code → Array Oper
  | .region i ops _ => match Nat.beq i id with | true => ops | false => #[]
  | .seq a b => regOps id a ++ regOps id b
  | .cond _ x y => regOps id x ++ regOps id y
  | .block _ b => regOps id b
  | .loop b => regOps id b
  | _ => #[]
theorem SpOK.hits {P : Program} {C : Ctx} {n id : Nat} {E : EE} {h : (R : Type) → AS → (AS → Option R) → Option R} (hE : E.sp = fun i => match Nat.beq i id with | true => some h | false => Option.none) : ∀ c : Code, (∀ p ∈ hits id c, ∀ R s K y, h R s K = some y → ∃ s', Tri P C n p s .normal s' ∧ K s' = some y) → SpOK P C n E c := by
  intro c
  induction c with
  | seq a b iha ihb =>
    intro hp
    cases hb : Nat.beq (firstReg a) id with
    | true =>
      have e1 : E.sp (firstReg a) = some h := by rw [hE]; simp only [hb]
      unfold SpOK
      rw [e1]
      exact hp _ (by simp [Go.Co.hits, hb])
    | false =>
      have e1 : E.sp (firstReg a) = Option.none := by rw [hE]; simp only [hb]
      unfold SpOK
      rw [e1]
      exact ⟨iha fun p q => hp p (by simp [Go.Co.hits, hb, q]), ihb fun p q => hp p (by simp [Go.Co.hits, hb, q])⟩
  | cond c x y ihx ihy => intro hp; exact ⟨ihx fun p q => hp p (by simp [Go.Co.hits, q]), ihy fun p q => hp p (by simp [Go.Co.hits, q])⟩
  | block id b ih => intro hp; exact ih hp
  | loop b ih => intro hp; exact ih hp
  | _ => intro _; trivial
end Go.Co
end

section
namespace Go.Co.N
open Go Go.Co Go.Proofs Go.Sort

/-- Those entries' names that another map hasn't. -/
def pickB22 (lw : List (Int × Int)) (i : Int) (l : List (Int × Int)) : List Reveal := (l.filter fun e => decide ((mget lw e.1).getD 0 = 0)).map fun e => ⟨e.1, i⟩
/-- What the piece finds, holds in its rounds, leaves. -/
def bornI : SD := ⟨[(3, .row (.st .reveal)), (4, .mp 2), (5, .hole .i), (7, .mp 5), (8, .hole .i), (14, .hole (.list (.st .tree))), (15, .hole .i), (16, .hole .i)], [], [(2, .i, .i), (5, .i, .i)]⟩
def bornD : SD := ⟨[(3, .row (.st .reveal)), (4, .mp 2), (5, .hole .i), (7, .mp 5), (8, .hole .i), (14, .hole (.list (.st .tree))), (15, .hole .i), (16, .hole .i), (26, .ptr 29 [])], [], [(2, .i, .i)]⟩
def bornO : SD := ⟨[(3, .row (.st .reveal)), (4, .omp .i .i), (14, .hole (.list (.st .tree))), (15, .hole .i), (16, .hole .i)], [], []⟩
def rngO (room : Nat) (r : AExit) (s : AS) : Option bornO.den :=
  match r with
  | .normal => match Nat.ble s.nx room with
    | true => rdD bornO 28 s
    | false => none
  | _ => none
theorem rngO_some {room : Nat} {r : AExit} {s : AS} {x : bornO.den} (h : rngO room r s = some x) : r = .normal ∧ s.nx ≤ room ∧ rdD bornO 28 s = some x := by
  unfold rngO at h
  split at h
  · split at h
    · rename_i hb
      exact ⟨rfl, Nat.le_of_ble_eq_true hb, h⟩
    · cases h
  · cases h
def bornF (y : bornI.den) : Option bornO.den :=
  bif decide (y.1.2.2.2.2.1 = ((y.1.1 : List Reveal).length : Int)) && decide (((y.1.1 : List Reveal).length + (y.2.2.2.1 : List (Int × Int)).length) * 16 ≤ 140737488355328) then
    some (((y.1.1 : List Reveal) ++ sortL cfV (pickB22 y.2.2.1 y.1.2.2.1 y.2.2.2.1), y.2.2.2.1, y.1.2.2.2.2.2.1, y.1.2.2.2.2.2.2.1, y.1.2.2.2.2.2.2.2.1, ()), (), ()) else none
def bornH (R : Type) (s : AS) (K : AS → Option R) : Option R :=
  match Nat.beq s.nx 28, rdD bornI 28 s with
  | true, some y => Option.bind (bornF y) fun z => K (mkD bornO 28 60 z)
  | _, _ => none
theorem bornH_some {R : Type} {s : AS} {K : AS → Option R} {r : R} (h : bornH R s K = some r) : s.nx = 28 ∧ ∃ (xs : List Reveal) (i fr : Int) (ts : List Tree) (len idx : Int) (lw ln : List (Int × Int)), rdD bornI 28 s = some ((xs, (), i, (), fr, ts, len, idx, ()), (), lw, ln, ()) ∧ fr = (xs.length : Int) ∧ (xs.length + ln.length) * 16 ≤ 140737488355328 ∧
    K (mkD bornO 28 60 ((xs ++ sortL cfV (pickB22 lw i ln), ln, ts, len, idx, ()), (), ())) = some r := by
  unfold bornH at h
  split at h
  · rename_i y hb hy
    refine ⟨Nat.eq_of_beq_eq_true hb, ?_⟩
    obtain ⟨⟨xs, _, i, _, fr, ts, len, idx, _⟩, _, lw, ln, _⟩ := y
    obtain ⟨z, hz, hk⟩ := Option.bind_eq_some_iff.1 h
    unfold bornF at hz
    cases hc : (decide (fr = ((xs : List Reveal).length : Int)) && decide (((xs : List Reveal).length + (ln : List (Int × Int)).length) * 16 ≤ 140737488355328)) with
    | false => simp only [hc, cond_false] at hz; cases hz
    | true =>
      simp only [hc, cond_true, Option.some.injEq] at hz
      subst hz
      simp only [Bool.and_eq_true, decide_eq_true_eq] at hc
      exact ⟨xs, i, fr, ts, len, idx, lw, ln, hy, hc.1, hc.2, hk⟩
  · cases h
def born_round (lw : List (Int × Int)) (i fr : Int) (ts : List Tree) (len idx : Int) (xs : List Reveal) (x : Int × Int) : Option bornD.den :=
  bif decide ((mget lw x.1).getD 0 = 0) then bif decide ((xs.length + 1) * 16 ≤ 140737488355328) then some ((List.append xs [⟨x.1, i⟩], (), i, (), fr, ts, len, idx, (), ()), (), lw, ()) else none
  else some ((xs, (), i, (), fr, ts, len, idx, (), ()), (), lw, ())
def born_end (ln : List (Int × Int)) (fr : Int) (ts : List Tree) (len idx : Int) (xs : List Reveal) : Option bornO.den :=
  bif decide (0 ≤ fr) && decide (fr ≤ (xs.length : Int)) && decide ((xs.length : Int) ≤ (xs.length : Int)) then
    bif decide (0 ≤ fr) && decide (fr ≤ (xs.length : Int)) && decide ((xs.length : Int) ≤ (xs.length : Int)) then
      some ((List.append (List.take fr.toNat xs) (List.append (sortL cfV (cutL fr (xs.length : Int) xs)) (List.drop (xs.length : Int).toNat xs)), ln, ts, len, idx, ()), (), ())
    else none
  else none
theorem pick_len (lw : List (Int × Int)) (i : Int) (l : List (Int × Int)) : (pickB22 lw i l).length ≤ l.length := by
  unfold pickB22
  rw [List.length_map]
  exact List.length_filter_le _ _
theorem born_round_ok {lw : List (Int × Int)} {i fr : Int} {ts : List Tree} {len idx : Int} {xs : List Reveal} {ln done : List (Int × Int)} {x : Int × Int} (hp : ∃ r, (done ++ x :: r).Perm ln) (hb : (xs.length + ln.length) * 16 ≤ 140737488355328) :
    born_round lw i fr ts len idx (xs ++ pickB22 lw i done) x = some ((xs ++ pickB22 lw i (done ++ [x]), (), i, (), fr, ts, len, idx, (), ()), (), lw, ()) := by
  obtain ⟨r, hp⟩ := hp
  have hl := hp.length_eq
  simp only [List.length_append, List.length_cons] at hl
  have h1 := pick_len lw i done
  have h2 : decide (((xs ++ pickB22 lw i done).length + 1) * 16 ≤ 140737488355328) = true := decide_eq_true (by rw [List.length_append]; omega)
  unfold born_round
  rw [h2]
  have hpick : pickB22 lw i (done ++ [x]) = pickB22 lw i done ++ bif decide ((mget lw x.1).getD 0 = 0) then [⟨x.1, i⟩] else [] := by
    unfold pickB22
    rw [List.filter_append, List.map_append]
    congr 1
    by_cases hc : (mget lw x.1).getD 0 = 0
    · simp [hc]
    · simp [hc]
  rw [hpick]
  cases decide ((mget lw x.1).getD 0 = 0) with
  | true =>
    simp only [cond_true]
    rw [← List.append_assoc]
    rfl
  | false =>
    simp only [cond_false, List.append_nil]
    rfl
theorem sort_pick {lw : List (Int × Int)} {i : Int} {π ln : List (Int × Int)} (h : π.Perm ln) : sortL cfV (pickB22 lw i π) = sortL cfV (pickB22 lw i ln) := by
  have hp : (pickB22 lw i π).Perm (pickB22 lw i ln) := (h.filter _).map _
  have h1 := perm_sortL swo_cfV (pickB22 lw i π)
  have h2 := perm_sortL swo_cfV (pickB22 lw i ln)
  have hep : ∀ l : List (Int × Int), ∀ y ∈ sortL cfV (pickB22 lw i l), y.Epoch = i := fun l y hy => by
    have := (perm_sortL swo_cfV (pickB22 lw i l)).mem_iff.1 hy
    unfold pickB22 at this
    obtain ⟨e, _, rfl⟩ := List.mem_map.1 this
    rfl
  refine List.Perm.eq_of_pairwise (le := fun x y => ltOf cfV y x = false) (fun x y hx hy h3 h4 => ?_) (sorted_sortL swo_cfV _) (sorted_sortL swo_cfV _) ((h1.trans hp).trans h2.symm)
  rw [lt_cfV] at h3 h4
  have e1 := hep _ _ hx
  have e2 := hep _ _ hy
  simp only [decide_eq_false_iff_not] at h3 h4
  cases x; cases y
  simp only at *
  rw [e1, e2]
  congr 1
  omega
theorem born_end_ok {lw ln π : List (Int × Int)} {i fr : Int} {ts : List Tree} {len idx : Int} {xs : List Reveal} (h : π.Perm ln) (hfr : fr = (xs.length : Int)) :
    born_end ln fr ts len idx (xs ++ pickB22 lw i π) = some ((xs ++ sortL cfV (pickB22 lw i ln), ln, ts, len, idx, ()), (), ()) := by
  subst hfr
  have h1 : decide ((0 : Int) ≤ (xs.length : Int)) = true := decide_eq_true (by omega)
  have h2 : decide ((xs.length : Int) ≤ ((xs ++ pickB22 lw i π).length : Int)) = true := decide_eq_true (by rw [List.length_append]; omega)
  unfold born_end
  rw [cutL_eq (by omega), h1, h2]
  simp only [Bool.and_self, Int.toNat_natCast, List.take_length, List.drop_length]
  have e1 : (xs ++ pickB22 lw i π).take xs.length = xs := by simp
  have e2 : (xs ++ pickB22 lw i π).drop xs.length = pickB22 lw i π := by simp
  rw [e1, e2, sort_pick h]
  simp
  rfl
end Go.Co.N
end

section
set_option maxRecDepth 100000
noncomputable section
namespace Go.Co.N
open Go Go.Co
def g_history_Play_r1 : (Unit × List Tree × List Int × List Batch × Int × Int × Unit) × (Tree × Unit) × Unit → Option (((Unit × List Tree × List Int × List Batch × Int × Int × Unit) × (Tree × Unit) × Unit) ⊕ ((List Tree × List Int × Unit) × (Tree × Unit) × Unit))
  | ((_, a, b, c, d, e, _), (f, _), _) => bif decide (e < d) then bif decide (0 ≤ e) && decide (e < (↑(List.length c) : Int)) then bif decide ((List.length b + 1) * 8 ≤ 140737488355328) then bif decide ((nextR f (lat c e)).snd.snd = 0) then bif decide ((List.length a + 1) * 1888 ≤ 140737488355328) then some (Sum.inl (((), List.append a [(nextR f (lat c e)).fst], List.append b [(nextR f (lat c e)).snd.snd], c, d, IntKind.wrap IntKind.i64 (e + 1), ()), ((nextR f (lat c e)).fst, ()), ())) else none else some (Sum.inl (((), a, List.append b [(nextR f (lat c e)).snd.snd], c, d, IntKind.wrap IntKind.i64 (e + 1), ()), (f, ()), ())) else none else none else some (Sum.inr ((a, b, ()), (f, ()), ()))
/-- coterie/history.Play -/
def g_history_Play : List Batch × Unit → Option (List Tree × List Int × Unit)
  | (a, _) => bif decide (0 ≤ (↑(List.length a) : Int)) && decide ((↑(List.length a) : Int) * 8 ≤ 140737488355328) then Option.bind (lfp g_history_Play_r1 (((), [startT], [], a, (↑(List.length a) : Int), 0, ()), (startT, ()), ())) fun z => some (z.fst.fst, z.fst.snd.fst, ()) else none
def g_history_came_r1 : (Unit × Unit × Unit × List Entry × Vector Entry 64 × Int × Unit) × (Tree × (List Int × Unit × Unit) × Unit) × Unit → Option (((Unit × Unit × Unit × List Entry × Vector Entry 64 × Int × Unit) × (Tree × (List Int × Unit × Unit) × Unit) × Unit) ⊕ ((Unit × Unit × List Entry × Unit) × (Tree × (List Int × Unit × Unit) × Unit) × Unit))
  | ((_, _, _, a, b, c, _), (d, (e, _, _), _), _) => bif decide (c < 64) then bif decide (0 ≤ c) && decide (c < 64) then bif decide (0 ≤ c) && decide (c < 64) then bif decide (Arr.get b c = Arr.get d.Roster c) then some (Sum.inl (((), (), (), a, b, IntKind.wrap IntKind.i64 (c + 1), ()), (d, (e, (), ()), ()), ())) else bif !decide ((Arr.get b c).Base = 0) then bif decide ((List.length e + 1) * 8 ≤ 140737488355328) then bif !decide ((Arr.get d.Roster c).Base = 0) then bif decide ((List.length a + 1) * 24 ≤ 140737488355328) then some (Sum.inl (((), (), (), List.append a [Arr.get d.Roster c], b, IntKind.wrap IntKind.i64 (c + 1), ()), (d, (List.append e [(Arr.get b c).Who], (), ()), ()), ())) else none else some (Sum.inl (((), (), (), a, b, IntKind.wrap IntKind.i64 (c + 1), ()), (d, (List.append e [(Arr.get b c).Who], (), ()), ()), ())) else none else bif !decide ((Arr.get d.Roster c).Base = 0) then bif decide ((List.length a + 1) * 24 ≤ 140737488355328) then some (Sum.inl (((), (), (), List.append a [Arr.get d.Roster c], b, IntKind.wrap IntKind.i64 (c + 1), ()), (d, (e, (), ()), ()), ())) else none else some (Sum.inl (((), (), (), a, b, IntKind.wrap IntKind.i64 (c + 1), ()), (d, (e, (), ()), ()), ())) else none else none else some (Sum.inr (((), (), a, ()), (d, (e, (), ()), ()), ()))
def g_history_came_r2 : (Unit × Unit × Unit × Int × Int × Unit) × ((Unit × List Int × Unit) × Unit) × List Entry × Unit → Option (((Unit × Unit × Unit × Int × Int × Unit) × ((Unit × List Int × Unit) × Unit) × List Entry × Unit) ⊕ ((Unit × Unit × Unit) × ((Unit × List Int × Unit) × Unit) × List Entry × Unit))
  | ((_, _, _, a, b, _), ((_, c, _), _), d, _) => bif decide (b < a) then bif decide (0 ≤ b) && decide (b < (↑(List.length d) : Int)) then bif decide ((List.length c + 1) * 8 ≤ 140737488355328) then some (Sum.inl (((), (), (), a, IntKind.wrap IntKind.i64 (b + 1), ()), (((), List.append c [(lat d b).Who], ()), ()), d, ())) else none else none else some (Sum.inr (((), (), ()), (((), c, ()), ()), d, ()))
/-- coterie/history.came -/
def g_history_came : Tree × Tree × Unit → Option (Batch × Unit)
  | (a, b, _) => Option.bind (lfp g_history_came_r1 (((), (), (), [], a.Roster, 0, ()), (b, ([], (), ()), ()), ())) fun z => Option.bind (lfp g_history_came_r2 (((), (), (), (↑(List.length (sortL cfE z.fst.snd.snd.fst)) : Int), 0, ()), (((), [], ()), ()), sortL cfE z.fst.snd.snd.fst, ())) fun z_1 => some (Batch.mk z.snd.fst.snd.fst.fst z_1.snd.fst.fst.snd.fst, ())
def g_history_Right_r1 : (List Tree × List Tree × Int × Int × Unit) × Unit × Unit → Option (((List Tree × List Tree × Int × Int × Unit) × Unit × Unit) ⊕ ((Bool × Unit) × Unit × Unit ⊕ Unit × Unit × Unit))
  | ((a, b, c, d, _), _, _) => bif decide (d < c) then bif decide (0 ≤ d) && decide (d < (↑(List.length b) : Int)) then bif decide (0 ≤ d) && decide (d < (↑(List.length a) : Int)) then bif decide (0 ≤ d) && decide (d < (↑(List.length a) : Int)) then bif !decide ((nextR (lat a d) (cameB (lat a d) (lat b d))).snd.snd = 0) then some (Sum.inr (Sum.inl ((false, ()), (), ()))) else bif !decide ((nextR (lat a d) (cameB (lat a d) (lat b d))).fst = lat b d) then some (Sum.inr (Sum.inl ((false, ()), (), ()))) else some (Sum.inl ((a, b, c, IntKind.wrap IntKind.i64 (d + 1), ()), (), ())) else none else none else none else some (Sum.inr (Sum.inr ((), (), ())))
/-- coterie/history.Right -/
def g_history_Right : List Tree × Unit → Option (Bool × Unit)
  | (a, _) => bif decide ((↑(List.length a) : Int) = 0) then some (false, ()) else bif decide (0 < (↑(List.length a) : Int)) then bif !decide (lat a 0 = startT) then some (false, ()) else bif decide (1 ≤ (↑(List.length a) : Int)) && decide ((↑(List.length a) : Int) ≤ (↑(List.length a) : Int)) then Option.bind (lfp g_history_Right_r1 ((a, List.drop 1 (List.take (Int.toNat (↑(List.length a) : Int)) a), (↑(List.length (List.drop 1 (List.take (Int.toNat (↑(List.length a) : Int)) a))) : Int), 0, ()), (), ())) fun z => Sum.elim (fun x => some (x.fst.fst, ())) (fun _ => some (true, ())) z else none else none
def g_history_On_r1 : (Int × List Tree × Int × Int × Unit) × Unit × Unit → Option (((Int × List Tree × Int × Int × Unit) × Unit × Unit) ⊕ ((Bool × Unit) × Unit × Unit ⊕ Unit × Unit × Unit))
  | ((a, b, c, d, _), _, _) => bif decide (d < c) then bif decide (0 ≤ d) && decide (d < (↑(List.length b) : Int)) then bif decide (findR (lat b d).Roster a < 0) then some (Sum.inr (Sum.inl ((false, ()), (), ()))) else some (Sum.inl ((a, b, c, IntKind.wrap IntKind.i64 (d + 1), ()), (), ())) else none else some (Sum.inr (Sum.inr ((), (), ())))
/-- coterie/history.On -/
def g_history_On : List Tree × Int × Int × Int × Unit → Option (Bool × Unit)
  | (a, b, c, d, _) => bif decide (c < 0) then some (false, ()) else bif decide (d < c) then some (false, ()) else bif decide ((↑(List.length a) : Int) ≤ d) then some (false, ()) else bif decide (0 ≤ c) && decide (c ≤ IntKind.wrap IntKind.i64 (d + 1)) && decide (IntKind.wrap IntKind.i64 (d + 1) ≤ (↑(List.length a) : Int)) then Option.bind (lfp g_history_On_r1 ((b, List.drop (Int.toNat c) (List.take (Int.toNat (IntKind.wrap IntKind.i64 (d + 1))) a), (↑(List.length (List.drop (Int.toNat c) (List.take (Int.toNat (IntKind.wrap IntKind.i64 (d + 1))) a))) : Int), 0, ()), (), ())) fun z => Sum.elim (fun x => some (x.fst.fst, ())) (fun _ => some (true, ())) z else none
def g_history_Excused_r1 : (List Reveal × Unit × Int × Int × Unit) × (List Tree × Int × Int × Unit) × Unit → Option (((List Reveal × Unit × Int × Int × Unit) × (List Tree × Int × Int × Unit) × Unit) ⊕ ((Int × Unit) × (List Tree × Int × Int × Unit) × Unit ⊕ Unit × (List Tree × Int × Int × Unit) × Unit))
  | ((a, _, b, c, _), (d, e, f, _), _) => bif decide (c < b) then bif decide (0 ≤ c) && decide (c < (↑(List.length a) : Int)) then bif !onR d (lat a c).Who (lat a c).Epoch e then some (Sum.inl ((a, (), b, IntKind.wrap IntKind.i64 (c + 1), ()), (d, e, f, ()), ())) else bif decide (0 ≤ e) && decide (e < (↑(List.length d) : Int)) then bif below f (leaf (findR (lat d e).Roster (lat a c).Who)) then some (Sum.inr (Sum.inl ((c, ()), (d, e, f, ()), ()))) else some (Sum.inl ((a, (), b, IntKind.wrap IntKind.i64 (c + 1), ()), (d, e, f, ()), ())) else none else none else some (Sum.inr (Sum.inr ((), (d, e, f, ()), ())))
/-- coterie/history.Excused -/
def g_history_Excused : List Tree × List Reveal × Int × Int × Unit → Option (Bool × Unit)
  | (a, b, c, d, _) => bif decide (d < 0) then some (false, ()) else bif decide (21 ≤ d) then some (false, ()) else Option.bind (lfp g_history_Excused_r1 ((b, (), (↑(List.length b) : Int), 0, ()), (a, c, d, ()), ())) fun z => Sum.elim (fun x => some (decide (0 ≤ x.fst.fst), ())) (fun _ => some (false, ())) z
end Go.Co.N
end
end

section
namespace Go.Co.N
open Go Go.Co Go.Proofs Go.Sort

theorem nextR_e22 (t : Tree) (b : Batch) : (nextR t b).2.2 = (nextT t b).e := by
  unfold nextR
  by_cases h : (nextT t b).e = 0
  · rw [decide_eq_true h, h]; rfl
  · rw [decide_eq_false h]; rfl
theorem nextR_t22 {t : Tree} {b : Batch} (h : (nextT t b).e = 0) : (nextR t b).1 = (nextT t b).t := by
  unfold nextR
  rw [decide_eq_true h]; rfl

/-! ### Play -/
theorem play_loop (c : List Batch) (hc : c.length * 48 ≤ 140737488355328) : ∀ (r : List Batch) (i : Nat) (acc : List Tree) (errs : List Int) (f : Tree), c.drop i = r → errs.length = i → (acc.length : Int) = f.Epoch + 1 → f.Epoch ≤ 200 →
    ∃ f' : Tree, lfp g_history_Play_r1 (((), acc, errs, c, (c.length : Int), (i : Int), ()), (f, ()), ()) = some ((acc ++ (playT f r).1, errs ++ (playT f r).2, ()), (f', ()), ())
  | [], i, acc, errs, f, hd, hi, _, _ => by
    have hl : c.length ≤ i := List.drop_eq_nil_iff.1 hd
    refine ⟨f, lfp_inr ?_⟩
    have k1 : decide ((i : Int) < (c.length : Int)) = false := decide_eq_false (by omega)
    simp only [g_history_Play_r1, k1, cond_false, playT, List.append_nil]
  | b :: r, i, acc, errs, f, hd, hi, ha, hf => by
    obtain ⟨hl, hx, hr⟩ := lat_drop hd
    have k1 : decide ((i : Int) < (c.length : Int)) = true := decide_eq_true (by omega)
    have k2 : decide ((errs.length + 1) * 8 ≤ 140737488355328) = true := decide_eq_true (by omega)
    have k3 : decide ((acc.length + 1) * 1888 ≤ 140737488355328) = true := decide_eq_true (by omega)
    have hi2 : IntKind.i64.wrap ((i : Int) + 1) = ((i + 1 : Nat) : Int) := by rw [i64_in _ (by omega)]; omega
    by_cases h : (nextT f b).e = 0
    · have he := nx_epoch h
      obtain ⟨f', hf'⟩ := play_loop c hc r (i + 1) (acc ++ [(nextT f b).t]) (errs ++ [0]) (nextT f b).t hr (by simp [hi]) (by rw [List.length_append, he.1]; simp; omega) (by omega)
      refine ⟨f', ?_⟩
      rw [lfp_inl (x' := (((), acc ++ [(nextT f b).t], errs ++ [0], c, (c.length : Int), ((i + 1 : Nat) : Int), ()), ((nextT f b).t, ()), ())) (by
        simp only [g_history_Play_r1, k1, k2, k3, hx, hi2, nextR_e22, nextR_t22 h, h, Int.natCast_nonneg, decide_true, Bool.and_self, cond_true]; rfl), hf']
      simp only [playT, h, decide_true, cond_true, List.append_assoc, List.cons_append, List.nil_append]
    · obtain ⟨f', hf'⟩ := play_loop c hc r (i + 1) acc (errs ++ [(nextT f b).e]) f hr (by simp [hi]) ha hf
      refine ⟨f', ?_⟩
      rw [lfp_inl (x' := (((), acc, errs ++ [(nextT f b).e], c, (c.length : Int), ((i + 1 : Nat) : Int), ()), (f, ()), ())) (by
        simp only [g_history_Play_r1, k1, k2, hx, hi2, nextR_e22, decide_eq_false h, Int.natCast_nonneg, decide_true, Bool.and_self, cond_true, cond_false]; rfl), hf']
      simp only [playT, decide_eq_false h, cond_false, List.append_assoc, List.cons_append, List.nil_append]
theorem eq_history_Play : Eqs c_history_Play g_history_Play := Eqs.tot fun (c, _) hf => by
  change List Batch at c
  have hc : c.length * 48 ≤ 140737488355328 := (Fine.list.1 hf.1).1
  obtain ⟨f', h⟩ := play_loop c hc c 0 [startT] [] startT rfl rfl rfl (by decide)
  have k1 : decide ((c.length : Int) * 8 ≤ 140737488355328) = true := decide_eq_true (by omega)
  simp only [g_history_Play, k1, Int.natCast_nonneg, decide_true, Bool.and_self, cond_true]
  rw [show lfp g_history_Play_r1 (((), [startT], [], c, (c.length : Int), 0, ()), (startT, ()), ()) = _ from h]
  rfl

/-! ### Of which batch -/
def leftN (a b : Roster) (n : Nat) : List Int := ((List.range n).filter fun (s : Nat) => !decide (ent a s = ent b s) && isOn a s).map fun (s : Nat) => (ent a s).Who
def cameN (a b : Roster) (n : Nat) : List Entry := ((List.range n).filter fun (s : Nat) => !decide (ent a s = ent b s) && isOn b s).map fun (s : Nat) => ent b s
theorem leftN_succ (a b : Roster) (n : Nat) : leftN a b (n + 1) = leftN a b n ++ bif !decide (ent a n = ent b n) && isOn a n then [(ent a n).Who] else [] := by
  unfold leftN
  rw [List.range_succ, List.filter_append, List.map_append]
  congr 1
  cases h : (!decide (ent a n = ent b n) && isOn a n) <;> simp [h]
theorem cameN_succ (a b : Roster) (n : Nat) : cameN a b (n + 1) = cameN a b n ++ bif !decide (ent a n = ent b n) && isOn b n then [ent b n] else [] := by
  unfold cameN
  rw [List.range_succ, List.filter_append, List.map_append]
  congr 1
  cases h : (!decide (ent a n = ent b n) && isOn b n) <;> simp [h]
theorem leftN_len (a b : Roster) (n : Nat) : (leftN a b n).length ≤ n := by
  unfold leftN
  rw [List.length_map]
  exact Nat.le_trans (List.length_filter_le _ _) (by simp)
theorem cameN_len (a b : Roster) (n : Nat) : (cameN a b n).length ≤ n := by
  unfold cameN
  rw [List.length_map]
  exact Nat.le_trans (List.length_filter_le _ _) (by simp)
theorem whos_loop (l : List Entry) (hl : l.length ≤ 64) : lfp g_history_came_r2 (((), (), (), (l.length : Int), 0, ()), (((), [], ()), ()), l, ()) = some (((), (), ()), (((), l.map (·.Who), ()), ()), l, ()) := by
  rw [lfp_run' (fun i => (((), (), (), (l.length : Int), (i : Int), ()), (((), (l.map (·.Who)).take i, ()), ()), l, ())) l.length (by simp) fun i hi => by
    have k1 : decide ((i : Int) < (l.length : Int)) = true := decide_eq_true (by omega)
    have k2 : decide ((((l.map (·.Who)).take i).length + 1) * 8 ≤ 140737488355328) = true := decide_eq_true (by rw [List.length_take, List.length_map]; omega)
    have k3 : List.append ((l.map (·.Who)).take i) [(lat l (i : Int)).Who] = (l.map (·.Who)).take (i + 1) := by
      rw [lat_nat l i hi, List.take_add_one, List.getElem?_map, List.getElem?_eq_getElem hi]
      rfl
    simp only [g_history_came_r2, k1, k2, k3, wrap1 i (by omega), Int.natCast_nonneg, decide_true, Bool.and_self, cond_true]]
  refine lfp_inr ?_
  have k1 : decide ((l.length : Int) < (l.length : Int)) = false := decide_eq_false (by omega)
  simp only [g_history_came_r2, k1, cond_false]
  rw [List.take_of_length_le (by simp)]
theorem eq_history_came : Eqs c_history_came g_history_came := Eqs.tot fun (a, b, _) _ => by
  change Tree at a; change Tree at b
  have h1 : lfp g_history_came_r1 (((), (), (), [], a.Roster, 0, ()), (b, ([], (), ()), ()), ()) = some (((), (), cameL a.Roster b.Roster, ()), (b, (leftL a.Roster b.Roster, (), ()), ()), ()) := by
    rw [lfp_run' (fun i => (((), (), (), cameN a.Roster b.Roster i, a.Roster, (i : Int), ()), (b, (leftN a.Roster b.Roster i, (), ()), ()), ())) 64 (by rfl) fun i hi => by
      have k1 : decide ((i : Int) < 64) = true := decide_eq_true (by omega)
      have l1 := leftN_len a.Roster b.Roster i
      have l2 := cameN_len a.Roster b.Roster i
      have k2 : decide (((leftN a.Roster b.Roster i).length + 1) * 8 ≤ 140737488355328) = true := decide_eq_true (by omega)
      have k3 : decide (((cameN a.Roster b.Roster i).length + 1) * 24 ≤ 140737488355328) = true := decide_eq_true (by omega)
      simp only [g_history_came_r1, k1, k2, k3, wrap1 i (by omega), Int.natCast_nonneg, decide_true, Bool.and_self, cond_true, leftN_succ, cameN_succ]
      unfold isOn
      by_cases he : ent a.Roster i = ent b.Roster i
      · simp [he]
      · by_cases ha : (ent a.Roster i).Base = 0
        · by_cases hb : (ent b.Roster i).Base = 0
          · simp [he, ha, hb]
          · simp [he, ha, hb]
        · by_cases hb : (ent b.Roster i).Base = 0
          · simp [he, ha, hb]
          · simp [he, ha, hb]]
    exact lfp_inr (by simp only [g_history_came_r1]; rfl)
  simp only [g_history_came]
  rw [h1, Option.bind_some]
  dsimp only
  rw [whos_loop _ (by rw [(perm_sortL swo_cfE _).length_eq]; exact cameN_len _ _ 64)]
  rfl

/-! ### Is the row right? -/
theorem step_is (a t : Tree) : stepB a t = (decide ((nextR a (cameB a t)).2.2 = 0) && decide ((nextR a (cameB a t)).1 = t)) := by
  unfold stepB
  rw [nextR_e22]
  by_cases h : (nextT a (cameB a t)).e = 0
  · rw [nextR_t22 h]
  · rw [decide_eq_false h]; rfl
theorem right_loop (a b : List Tree) (hb : b.length ≤ 9000000000000000000) : ∀ (r : List Tree) (i : Nat) (p : Tree), a.drop i = p :: r → b.drop i = r →
    lfp g_history_Right_r1 ((a, b, (b.length : Int), (i : Int), ()), (), ()) = some (bif chainB p r then Sum.inr ((), (), ()) else Sum.inl ((false, ()), (), ()))
  | [], i, p, _, hd => by
    have hl : b.length ≤ i := List.drop_eq_nil_iff.1 hd
    refine lfp_inr ?_
    have k1 : decide ((i : Int) < (b.length : Int)) = false := decide_eq_false (by omega)
    simp only [g_history_Right_r1, k1, cond_false, chainB, cond_true]
  | t :: r, i, p, hp, hd => by
    obtain ⟨hl, hx, hr⟩ := lat_drop hd
    obtain ⟨hl2, hx2, hr2⟩ := lat_drop hp
    have k1 : decide ((i : Int) < (b.length : Int)) = true := decide_eq_true (by omega)
    have k2 : decide ((i : Int) < (a.length : Int)) = true := decide_eq_true (by omega)
    have hi2 : IntKind.i64.wrap ((i : Int) + 1) = ((i + 1 : Nat) : Int) := by rw [i64_in _ (by omega)]; omega
    have ih := right_loop a b hb r (i + 1) t hr2 hr
    simp only [chainB]
    rw [step_is]
    cases h1 : decide ((nextR p (cameB p t)).2.2 = 0) with
    | false =>
      exact lfp_inr (by simp only [g_history_Right_r1, k1, k2, hx, hx2, h1, Int.natCast_nonneg, decide_true, Bool.and_self, cond_true, Bool.not_false, Bool.false_and, cond_false])
    | true =>
      cases h2 : decide ((nextR p (cameB p t)).1 = t) with
      | false =>
        exact lfp_inr (by simp only [g_history_Right_r1, k1, k2, hx, hx2, h1, h2, Int.natCast_nonneg, decide_true, Bool.and_self, cond_true, Bool.not_false, Bool.not_true, Bool.false_and, Bool.and_false, cond_false])
      | true =>
        rw [lfp_inl (x' := ((a, b, (b.length : Int), ((i + 1 : Nat) : Int), ()), (), ())) (by simp only [g_history_Right_r1, k1, k2, hx, hx2, h1, h2, hi2, Int.natCast_nonneg, decide_true, Bool.and_self, cond_true, Bool.not_true, cond_false]), ih]
        rfl
theorem eq_history_Right : Eqs c_history_Right g_history_Right := Eqs.tot fun (a, _) hf => by
  change List Tree at a
  have ha : a.length * 1888 ≤ 140737488355328 := (Fine.list.1 hf.1).1
  show g_history_Right (a, ()) = some (rightR a, ())
  cases a with
  | nil => rfl
  | cons t r =>
    have k0 : decide ((((t :: r : List Tree).length : Nat) : Int) = 0) = false := decide_eq_false (by simp only [List.length_cons]; omega)
    have k1 : decide ((0 : Int) < (((t :: r : List Tree).length : Nat) : Int)) = true := decide_eq_true (by simp only [List.length_cons]; omega)
    have k2 : decide ((1 : Int) ≤ (((t :: r : List Tree).length : Nat) : Int)) = true := decide_eq_true (by simp only [List.length_cons]; omega)
    have k3 : List.drop 1 (List.take (Int.toNat (((t :: r : List Tree).length : Nat) : Int)) (t :: r)) = r := by simp
    have k4 : lat (t :: r) 0 = t := rfl
    have k5 : decide ((((t :: r : List Tree).length : Nat) : Int) ≤ (((t :: r : List Tree).length : Nat) : Int)) = true := decide_eq_true (Int.le_refl _)
    simp only [g_history_Right, k0, k1, k2, k3, k4, k5, cond_false, cond_true, Bool.and_self]
    have hlp := right_loop (t :: r) r (by simp only [List.length_cons] at ha; omega) r 0 t rfl rfl
    rw [show lfp g_history_Right_r1 ((t :: r, r, (r.length : Int), 0, ()), (), ()) = _ from hlp]
    show _ = some (decide (t = startT) && chainB t r, ())
    cases decide (t = startT) with
    | false => rfl
    | true => cases chainB t r <;> rfl

/-! ### Who was on -/
theorem on_loop (who : Int) (l : List Tree) (hl : l.length ≤ 9000000000000000000) :
    lfp g_history_On_r1 ((who, l, (l.length : Int), 0, ()), (), ()) = some (bif allN l.length (fun i => decide (0 ≤ findR (lat l (i : Int)).Roster who)) then Sum.inr ((), (), ()) else Sum.inl ((false, ()), (), ())) := by
  refine lfp_all' (fun i => ((who, l, (l.length : Int), (i : Int), ()), (), ())) l.length _ _ _ rfl (fun i hi h => ?_) (fun i hi h => ?_) ?_
  · have k1 : decide ((i : Int) < (l.length : Int)) = true := decide_eq_true (by omega)
    have hi2 : IntKind.i64.wrap ((i : Int) + 1) = ((i + 1 : Nat) : Int) := by rw [i64_in _ (by omega)]; omega
    have k2 : decide (findR (lat l (i : Int)).Roster who < 0) = false := decide_eq_false (by have := of_decide_eq_true h; omega)
    simp only [g_history_On_r1, k1, k2, hi2, Int.natCast_nonneg, decide_true, Bool.and_self, cond_true, cond_false]
  · have k1 : decide ((i : Int) < (l.length : Int)) = true := decide_eq_true (by omega)
    have k2 : decide (findR (lat l (i : Int)).Roster who < 0) = true := decide_eq_true (by have := of_decide_eq_false h; omega)
    simp only [g_history_On_r1, k1, k2, Int.natCast_nonneg, decide_true, Bool.and_self, cond_true]
  · have k1 : decide ((l.length : Int) < (l.length : Int)) = false := decide_eq_false (by omega)
    simp only [g_history_On_r1, k1, cond_false]
theorem allN_congr {n : Nat} {p q : Nat → Bool} (h : ∀ i, i < n → p i = q i) : allN n p = allN n q := by
  apply bool_eq
  rw [allN_iff, allN_iff]
  exact ⟨fun hp i hi => by rw [← h i hi]; exact hp i hi, fun hp i hi => by rw [h i hi]; exact hp i hi⟩
theorem on_cut {row : List Tree} {who : Int} {fr to : Nat} (h1 : fr ≤ to) (h2 : to < row.length) :
    allN ((row.take (to + 1)).drop fr).length (fun i => decide (0 ≤ findR (lat ((row.take (to + 1)).drop fr) (i : Int)).Roster who)) = allN (to + 1 - fr) (fun i => decide (0 ≤ findR (lat row ((fr : Int) + (i : Int))).Roster who)) := by
  have hl : ((row.take (to + 1)).drop fr).length = to + 1 - fr := by rw [List.length_drop, List.length_take]; omega
  rw [hl]
  refine allN_congr fun i hi => ?_
  have e1 : lat ((row.take (to + 1)).drop fr) (i : Int) = row[fr + i]'(by omega) := by
    rw [lat_nat _ i (by omega), List.getElem_drop, List.getElem_take]
  have e2 : lat row ((fr : Int) + (i : Int)) = row[fr + i]'(by omega) := by
    rw [show (fr : Int) + (i : Int) = ((fr + i : Nat) : Int) by omega, lat_nat]
  rw [e1, e2]
theorem eq_history_On : Eqs c_history_On g_history_On := Eqs.tot fun (row, who, fr, to, _) hf => by
  change List Tree at row; change Int at who; change Int at fr; change Int at to
  have ha : row.length * 1888 ≤ 140737488355328 := (Fine.list.1 hf.1).1
  show g_history_On (row, who, fr, to, ()) = some (onR row who fr to, ())
  unfold onR
  by_cases h1 : fr < 0
  · have d2 : decide (0 ≤ fr) = false := decide_eq_false (by omega)
    simp only [g_history_On, decide_eq_true h1, d2, cond_true, Bool.false_and]
  by_cases h2 : to < fr
  · have d2 : decide (fr ≤ to) = false := decide_eq_false (by omega)
    simp only [g_history_On, decide_eq_false h1, decide_eq_true h2, d2, cond_true, cond_false, Bool.and_false, Bool.false_and]
  by_cases h3 : (row.length : Int) ≤ to
  · have d2 : decide (to < (row.length : Int)) = false := decide_eq_false (by omega)
    simp only [g_history_On, decide_eq_false h1, decide_eq_false h2, decide_eq_true h3, d2, cond_true, cond_false, Bool.and_false, Bool.false_and]
  obtain ⟨f, rfl⟩ : ∃ f : Nat, fr = f := ⟨fr.toNat, by omega⟩
  obtain ⟨n, rfl⟩ : ∃ n : Nat, to = n := ⟨to.toNat, by omega⟩
  have w1 : IntKind.i64.wrap ((n : Int) + 1) = ((n + 1 : Nat) : Int) := by rw [i64_in _ (by omega)]; omega
  have d1 : decide ((f : Int) ≤ ((n + 1 : Nat) : Int)) = true := decide_eq_true (by omega)
  have d2 : decide (((n + 1 : Nat) : Int) ≤ (row.length : Int)) = true := decide_eq_true (by omega)
  have d3 : decide ((f : Int) ≤ (n : Int)) = true := decide_eq_true (by omega)
  have d4 : decide ((n : Int) < (row.length : Int)) = true := decide_eq_true (by omega)
  have d5 : ((n : Int) - (f : Int) + 1).toNat = n + 1 - f := by omega
  simp only [g_history_On, decide_eq_false h1, decide_eq_false h2, decide_eq_false h3, w1, d1, d2, d3, d4, d5, Int.natCast_nonneg, decide_true, Bool.and_self, cond_true, cond_false, Int.toNat_natCast, Bool.true_and]
  rw [on_loop who _ (by rw [List.length_drop, List.length_take]; omega), on_cut (by omega) (by omega)]
  cases allN (n + 1 - f) (fun i => decide (0 ≤ findR (lat row ((f : Int) + (i : Int))).Roster who)) <;> rfl
theorem onR_in {row : List Tree} {who fr to : Int} (h : onR row who fr to = true) : 0 ≤ fr ∧ fr ≤ to ∧ to < (row.length : Int) := by
  unfold onR at h
  simp only [Bool.and_eq_true, decide_eq_true_eq] at h
  exact ⟨h.1.1.1, h.1.1.2, h.1.2⟩

/-! ### What is excused -/
def excAt (row : List Tree) (e v : Int) (x : Reveal) : Bool := onR row x.Who x.Epoch e && below v (leaf (findR (lat row e).Roster x.Who))
theorem any_at {α : Type} [Inhabited α] (p : α → Bool) (l : List α) : l.any p = anyN l.length (fun i => p (lat l (i : Int))) := by
  apply bool_eq
  rw [List.any_eq_true, anyN_iff]
  constructor
  · rintro ⟨x, hx, hp⟩
    obtain ⟨i, hi, rfl⟩ := List.mem_iff_getElem.1 hx
    exact ⟨i, hi, by rw [lat_nat l i hi]; exact hp⟩
  · rintro ⟨i, hi, hp⟩
    rw [lat_nat l i hi] at hp
    exact ⟨_, List.getElem_mem hi, hp⟩
theorem eq_history_Excused : Eqs c_history_Excused g_history_Excused := Eqs.tot fun (row, seen, e, v, _) hf => by
  change List Tree at row; change List Reveal at seen; change Int at e; change Int at v
  have hs : seen.length * 16 ≤ 140737488355328 := (Fine.list.1 hf.2.1).1
  show g_history_Excused (row, seen, e, v, ()) = some (excR row seen e v, ())
  unfold excR
  by_cases h1 : v < 0
  · have d2 : decide (0 ≤ v) = false := decide_eq_false (by omega)
    simp only [g_history_Excused, decide_eq_true h1, d2, cond_true, Bool.false_and]
  by_cases h2 : 21 ≤ v
  · have d2 : decide (v < 21) = false := decide_eq_false (by omega)
    simp only [g_history_Excused, decide_eq_false h1, decide_eq_true h2, d2, cond_true, cond_false, Bool.and_false, Bool.false_and]
  have d1 : decide (0 ≤ v) = true := decide_eq_true (by omega)
  have d2 : decide (v < 21) = true := decide_eq_true (by omega)
  simp only [g_history_Excused, decide_eq_false h1, decide_eq_false h2, d1, d2, cond_false, Bool.and_self, Bool.true_and]
  have hlp := lfp_find (f := g_history_Excused_r1) (fun i => ((seen, (), (seen.length : Int), (i : Int), ()), (row, e, v, ()), ())) seen.length (fun i => excAt row e v (lat seen (i : Int))) (fun i => Sum.inl (((i : Int), ()), (row, e, v, ()), ())) (Sum.inr ((), (row, e, v, ()), ())) (fun i hi hb => by
      have k1 : decide ((i : Int) < (seen.length : Int)) = true := decide_eq_true (by omega)
      have hi2 : IntKind.i64.wrap ((i : Int) + 1) = ((i + 1 : Nat) : Int) := by rw [i64_in _ (by omega)]; omega
      unfold excAt at hb
      cases ho : onR row (lat seen (i : Int)).Who (lat seen (i : Int)).Epoch e with
      | false => simp only [g_history_Excused_r1, k1, ho, hi2, Int.natCast_nonneg, decide_true, Bool.and_self, cond_true, Bool.not_false]
      | true =>
        obtain ⟨a1, a2, a3⟩ := onR_in ho
        rw [ho, Bool.true_and] at hb
        have k2 : decide (0 ≤ e) = true := decide_eq_true (by omega)
        simp only [g_history_Excused_r1, k1, k2, decide_eq_true a3, ho, hb, hi2, Int.natCast_nonneg, decide_true, Bool.and_self, cond_true, cond_false, Bool.not_true]) (fun i hi hb => by
      have k1 : decide ((i : Int) < (seen.length : Int)) = true := decide_eq_true (by omega)
      unfold excAt at hb
      rw [Bool.and_eq_true] at hb
      obtain ⟨a1, a2, a3⟩ := onR_in hb.1
      have k2 : decide (0 ≤ e) = true := decide_eq_true (by omega)
      simp only [g_history_Excused_r1, k1, k2, decide_eq_true a3, hb.1, hb.2, Int.natCast_nonneg, decide_true, Bool.and_self, cond_true, cond_false, Bool.not_true]) (by
      have k1 : decide ((seen.length : Int) < (seen.length : Int)) = false := decide_eq_false (by omega)
      simp only [g_history_Excused_r1, k1, cond_false])
  rw [show lfp g_history_Excused_r1 ((seen, (), (seen.length : Int), 0, ()), (row, e, v, ()), ()) = _ from hlp, Option.bind_some, any_at]
  cases hfs : fstN seen.length (fun i => excAt row e v (lat seen (i : Int))) 0 with
  | some i =>
    obtain ⟨_, hi, hb, _⟩ := fstN_some hfs
    have : anyN seen.length (fun i => excAt row e v (lat seen (i : Int))) = true := anyN_iff.2 ⟨i, by omega, hb⟩
    show some (decide (0 ≤ (i : Int)), ()) = some (anyN seen.length (fun i => excAt row e v (lat seen (i : Int))), ())
    rw [this, decide_eq_true (Int.natCast_nonneg i)]
  | none =>
    have hn := fstN_none hfs
    have : anyN seen.length (fun i => excAt row e v (lat seen (i : Int))) = false := Bool.eq_false_iff.2 fun h => by
      obtain ⟨i, hi, hb⟩ := anyN_iff.1 h
      rw [hn i (Nat.zero_le _) (by omega)] at hb
      cases hb
    show some (false, ()) = some (anyN seen.length (fun i => excAt row e v (lat seen (i : Int))), ())
    rw [this]
end Go.Co.N
end
