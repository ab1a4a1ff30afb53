/-
  Who stands at another tree of a row doesn't open it: DataApart.
  Members: the laws of chapter 15.
  Members: messages of a row of steps, in any order.
  Recovery: the functions answer what they are to answer.
  Recovery: the laws of chapter 16.
  How many slots a word of 64 has: by bytes.
  Sets, batches, plans: the small functions answer what they are to answer.
  Batches that fit: the program's function answers what the reference's does.
  Moves: the program's function answers what the reference's does.
  Plans: one step, its message, what it costs.
  Plans: the message's items.
  What a step's message costs.
  The names that a step gives: from the old Fresh on, each once.
  Who gets its new keys: what the law's helpers are to answer.
  What each function computes, printed by a program of my own (wip/tool) out of its run.
  Who stays and who joins gets all of its new keys.
  The law's helpers answer so; the law on who gets its new keys.
  A step's keys: which are new, which are advanced ones; what can be derived of keys and boxes.
  Who left derives none of the new keys; who joins derives none of the old ones.
  What the last functions of plans are to answer.
  What each function computes, printed by a program of my own (wip/tool) out of its run.
  Plans: when a batch is refused; the nodes above seats.
  What the functions of bits and records are to answer.
  Bits, bytes and numbers: plain laws.
  Bits packed into bytes, and back: plain laws.
  Machine numbers as bits: what the program's shifts and masks say.
  What each function computes, printed by a program of my own (wip/tool) out of its run.
  Writing bits: the program's writer holds what was put.
  A record's bytes: the writer's.
  Reading bits: the program's reader takes what stands there.
  What is read of a record's bytes.
  The record's reader answers the record that the bits say.
  Records that are right; the reference's bits.
  The reference's bits: fields that are right, bytes of bits, bits of bytes.
  The reference packs fields, writes and reads records.
  The record of a step, and the step of a record.
  What each function computes, printed by a program of my own (wip/tool) out of its run.
  Laws of chapter 13: the record of a step plays it again; what is written is read.
  Laws of chapter 13: what is written is read again, nothing longer and nothing shorter; records of steps lead through the same trees.
  The law RecordMemory, as a contract.
  What each function computes, printed by a program of my own (wip/tool) out of its run.
  What each function computes, printed by a program of my own (wip/tool) out of its run.
  Plans: what is handed in stays, what is answered is new.
  Records: what is handed in stays, what is answered is new.
  A range over an iterator that keeps a box of its own: what the loop's body must keep.
  No conditions. Own text, for the claims about coterie.
-/
import Derived.RangeFuncMany
import Derived.RangeFuncBox
import Derived.OwnWalkIn
import Derived.Test.YtmjobjaajnjgjaaGreatDoorPartD

section
namespace Go.Co.N
open Go Go.Co

theorem lat_app_lt {α : Type} [Inhabited α] (l : List α) (y : α) {i : Nat} (h : i < l.length) : lat (l ++ [y]) (i : Int) = lat l (i : Int) := by
  rw [lat_nat _ _ (by simp; omega), lat_nat _ _ h, List.getElem_append_left h]
theorem lat_app_last {α : Type} [Inhabited α] (l : List α) (y : α) : lat (l ++ [y]) (l.length : Int) = y := by
  rw [lat_nat _ _ (by simp)]; simp
/-- Trees of a row: each one epoch on. -/
structure Chain (t : Tree) (a : List Tree) : Prop where
  ne : 1 ≤ a.length
  ep : ∀ i : Nat, i < a.length → (lat a (i : Int)).Epoch = t.Epoch + i
  le : a.length = 1 ∨ (0 ≤ t.Epoch ∧ t.Epoch + a.length ≤ 201)
theorem nextR_ok {t : Tree} {b : Batch} (h : (nextR t b).2.2 = 0) : (nextR t b).1.Epoch = t.Epoch + 1 ∧ 0 ≤ t.Epoch ∧ t.Epoch < 200 := by
  have h0 : (nextT t b).e = 0 := by
    by_cases h0 : (nextT t b).e = 0
    · exact h0
    · have : (nextR t b).2.2 = (nextT t b).e := by unfold nextR; rw [decide_eq_false h0]; rfl
      exact this ▸ h
  have h1 : (nextR t b).1 = (nextT t b).t := by unfold nextR; rw [decide_eq_true h0]; rfl
  rw [h1]
  by_cases hg : goodTree t = true
  case neg => simp [nextT, hg] at h0
  by_cases he : t.Epoch = 200
  case pos => simp [nextT, hg, he] at h0
  by_cases hf : fits t.Roster b = 0
  case neg => simp [nextT, hg, he, hf] at h0
  by_cases hs : (stepTurn t b).2.2 = 0
  case neg => simp [nextT, hg, he, hf, hs] at h0
  by_cases hm : (stepMove t b).e = 0
  case neg => simp [nextT, hg, he, hf, hs, hm] at h0
  obtain ⟨g1, g2, _⟩ := goodTree_iff.1 hg
  refine ⟨?_, g1, by omega⟩
  simp [nextT, hg, he, hf, hs, hm]
theorem Chain.more {t : Tree} {a : List Tree} (h : Chain t a) {b : Batch} {last : Tree} (hl : lat a ((a.length : Int) - 1) = last) (hn : (nextR last b).2.2 = 0) : Chain t (a ++ [(nextR last b).1]) ∧ a.length ≤ 200 := by
  obtain ⟨n1, n2, n3⟩ := nextR_ok hn
  have h1 := h.ne
  have hle := h.ep (a.length - 1) (by omega)
  rw [show ((a.length - 1 : Nat) : Int) = (a.length : Int) - 1 by omega, hl] at hle
  have h3 := h.le
  refine ⟨⟨by simp, fun i hi => ?_, ?_⟩, by omega⟩
  · by_cases hlt : i < a.length
    · rw [lat_app_lt _ _ hlt]; exact h.ep i hlt
    · have : i = a.length := by simp at hi; omega
      subst this
      rw [lat_app_last, n1]; omega
  · right
    simp only [List.length_append, List.length_cons, List.length_nil]
    omega
end Go.Co.N
end

section
namespace Go.Co.N
open Go Go.Co

/-! ### In step -/
end Go.Co.N
end

section
namespace Go.Co.N
open Go Go.Co

/-- Trees, each made of the one before, and the messages. -/
structure Runs (trees : List Tree) (row : List Rekey) : Prop where
  len : trees.length = row.length + 1
  step : ∀ i : Nat, i < row.length → ∃ b, (nextT (lat trees (i : Int)) b).e = 0 ∧ lat trees ((i + 1 : Nat) : Int) = (nextT (lat trees (i : Int)) b).t ∧ lat row (i : Int) = msgOf (lat trees (i : Int)) b
theorem Runs.one (t : Tree) : Runs [t] [] := ⟨rfl, fun i hi => by simp at hi⟩
theorem Runs.more {trees : List Tree} {row : List Rekey} (h : Runs trees row) {b : Batch} (hn : (nextT (lat trees (row.length : Int)) b).e = 0) : Runs (trees ++ [(nextT (lat trees (row.length : Int)) b).t]) (row ++ [msgOf (lat trees (row.length : Int)) b]) := by
  have hl := h.len
  refine ⟨by simp [hl], fun i hi => ?_⟩
  simp only [List.length_append, List.length_cons, List.length_nil] at hi
  by_cases e : i = row.length
  · subst e
    refine ⟨b, ?_, ?_, ?_⟩
    · rw [lat_app_lt _ _ (by omega)]; exact hn
    · rw [show ((row.length + 1 : Nat) : Int) = (trees.length : Int) by omega, lat_app_last, lat_app_lt _ _ (by omega)]
    · rw [lat_app_last, lat_app_lt _ _ (by omega)]
  · obtain ⟨b', h1, h2, h3⟩ := h.step i (by omega)
    refine ⟨b', ?_, ?_, ?_⟩
    · rw [lat_app_lt _ _ (by omega)]; exact h1
    · rw [lat_app_lt _ _ (by omega), lat_app_lt _ _ (by omega)]; exact h2
    · rw [lat_app_lt _ _ (by omega), lat_app_lt _ _ (by omega)]; exact h3
theorem Runs.epoch {trees : List Tree} {row : List Rekey} (h : Runs trees row) : ∀ i : Nat, i ≤ row.length → (lat trees (i : Int)).Epoch = (lat trees 0).Epoch + i
  | 0, _ => by simp
  | i + 1, hi => by
    obtain ⟨b, h1, h2, _⟩ := h.step i (by omega)
    rw [h2, (nx_epoch h1).1, Runs.epoch h i (by omega)]; omega
theorem Runs.good {trees : List Tree} {row : List Rekey} (h : Runs trees row) (hr : 0 < row.length) (i : Nat) (hi : i ≤ row.length) : goodTree (lat trees (i : Int)) = true := by
  cases i with
  | zero =>
    obtain ⟨b, h1, _, _⟩ := h.step 0 hr
    exact (nextT_ok h1).1
  | succ i =>
    obtain ⟨b, h1, h2, _⟩ := h.step i (by omega)
    rw [h2]; exact nx_good h1
theorem Runs.le {trees : List Tree} {row : List Rekey} (h : Runs trees row) : row.length ≤ 200 := by
  by_cases hr : row.length = 0
  · omega
  · have h0 := h.epoch row.length (by omega)
    have hg := goodTree_iff.1 (h.good (by omega) row.length (by omega))
    have hg0 := goodTree_iff.1 (h.good (by omega) 0 (by omega))
    have : (lat trees ((0 : Nat) : Int)) = lat trees 0 := rfl
    rw [this] at hg0
    omega
section
variable {trees : List Tree} {row : List Rekey} (hR : Runs trees row) (hr : 0 < row.length) {t : Tree} {slot : Nat} (hs : slot < 64) (hon : isOn t.Roster slot = true) (picks : List Int) (hp : picks.length * 8 ≤ 140737488355328)
include hR hr hs hon hp
end
end Go.Co.N
end

section
namespace Go.Co.N
open Go Go.Co

theorem eq_key_Seal : Eqs c_key_Seal g_key_Seal := Eqs.tot fun (u, l, _) _ => by
  change Key at u l
  simp only [g_key_Seal, sealK]
  cases good u <;> cases good l <;> rfl
/-! ### Answers -/
/-! ### Taking -/
end Go.Co.N
end

section
namespace Go.Co.N
open Go Go.Co

/-! ### Brought on -/
section
variable {t last : Tree} (hgt : goodTree t = true) (hgl : goodTree last = true) (hle : t.Epoch ≤ last.Epoch) {s : Nat} (hs : s < 64) (hon : isOn t.Roster s = true)
include hgt hs hon
include hgl hle
end
end Go.Co.N
end

section
namespace Go.Co.N
open Go Go.Co

/-- The same byte k times. -/
def rep (c : Nat) : Nat → Nat
  | 0 => 0
  | k + 1 => c + 256 * rep c k
/-- A function on each byte. -/
def mapB (g : Nat → Nat) : Nat → Nat → Nat
  | 0, _ => 0
  | k + 1, x => g (x % 256) + 256 * mapB g k (x / 256)
theorem and_split (x c r : Nat) (hc : c < 256) : x &&& (c + 256 * r) = ((x % 256) &&& c) + 256 * ((x / 256) &&& r) := by
  have h1 := @Nat.and_mod_two_pow x (c + 256 * r) 8
  have h2 := @Nat.and_div_two_pow x (c + 256 * r) 8
  have e1 : (c + 256 * r) % 2 ^ 8 = c := by omega
  have e2 : (c + 256 * r) / 2 ^ 8 = r := by omega
  rw [e1] at h1; rw [e2] at h2
  have e3 : x % 2 ^ 8 = x % 256 := by omega
  have e4 : x / 2 ^ 8 = x / 256 := by omega
  rw [e3] at h1; rw [e4] at h2
  omega
theorem low85 : ∀ z, z < 256 → z &&& 85 = (z % 128) &&& 85 := by decide +kernel
theorem low51 : ∀ z, z < 256 → z &&& 51 = (z % 64) &&& 51 := by decide +kernel
def g1 (b : Nat) : Nat := ((b / 2) &&& 85) + (b &&& 85)
def g2 (b : Nat) : Nat := ((b / 4) &&& 51) + (b &&& 51)
theorem step1 : ∀ k x, ((x / 2) &&& rep 85 k) + (x &&& rep 85 k) = mapB g1 k x
  | 0, x => by simp [rep, mapB]
  | k + 1, x => by
    have ih := step1 k (x / 256)
    simp only [rep, mapB]
    rw [and_split (x / 2) 85 _ (by omega), and_split x 85 _ (by omega), low85 (x / 2 % 256) (by omega), ← ih]
    have e1 : x / 2 % 256 % 128 = x % 256 / 2 := by omega
    have e2 : x / 2 / 256 = x / 256 / 2 := by omega
    rw [e1, e2]
    unfold g1
    omega
theorem step2 : ∀ k x, ((x / 4) &&& rep 51 k) + (x &&& rep 51 k) = mapB g2 k x
  | 0, x => by simp [rep, mapB]
  | k + 1, x => by
    have ih := step2 k (x / 256)
    simp only [rep, mapB]
    rw [and_split (x / 4) 51 _ (by omega), and_split x 51 _ (by omega), low51 (x / 4 % 256) (by omega), ← ih]
    have e1 : x / 4 % 256 % 64 = x % 256 / 4 := by omega
    have e2 : x / 4 / 256 = x / 256 / 4 := by omega
    rw [e1, e2]
    unfold g2
    omega
theorem mapB_comp {f g : Nat → Nat} (hf : ∀ b, b < 256 → f b < 256) : ∀ k x, mapB g k (mapB f k x) = mapB (fun b => g (f b)) k x
  | 0, _ => rfl
  | k + 1, x => by
    simp only [mapB]
    have h := hf (x % 256) (by omega)
    rw [show (f (x % 256) + 256 * mapB f k (x / 256)) % 256 = f (x % 256) by omega, show (f (x % 256) + 256 * mapB f k (x / 256)) / 256 = mapB f k (x / 256) by omega, mapB_comp hf k]
/-- Small halves. -/
def halves (f : Nat → Nat) : Prop := ∀ b, b < 256 → f b % 16 ≤ 4 ∧ f b / 16 ≤ 4
theorem mapB_low {f : Nat → Nat} (hf : halves f) : ∀ k x, mapB f k x % 16 ≤ 4
  | 0, _ => by simp [mapB]
  | k + 1, x => by
    have := (hf (x % 256) (by omega)).1
    simp only [mapB]; omega
def g3 (b : Nat) : Nat := (b / 16 + b) % 16
theorem step3 {f : Nat → Nat} (hf : halves f) : ∀ k x, (mapB f k x / 16 + mapB f k x) &&& rep 15 k = mapB (fun b => g3 (f b)) k x
  | 0, x => by simp [rep, mapB]
  | k + 1, x => by
    have ih := step3 hf k (x / 256)
    obtain ⟨h1, h2⟩ := hf (x % 256) (by omega)
    have h3 := mapB_low hf k (x / 256)
    simp only [rep, mapB]
    rw [and_split _ 15 _ (by omega), ← ih]
    generalize f (x % 256) = A at *
    generalize mapB f k (x / 256) = Y at *
    have e1 : ((A + 256 * Y) / 16 + (A + 256 * Y)) % 256 = A / 16 + 16 * (Y % 16) + A := by omega
    have e2 : ((A + 256 * Y) / 16 + (A + 256 * Y)) / 256 = Y / 16 + Y := by omega
    rw [e1, e2, show (15 : Nat) = 2 ^ 4 - 1 from rfl, Nat.and_two_pow_sub_one_eq_mod]
    unfold g3
    omega
theorem g1_lt : ∀ b, b < 256 → g1 b < 256 := by decide +kernel
theorem g2_halves : ∀ b, b < 256 → g2 (g1 b) % 16 ≤ 4 ∧ g2 (g1 b) / 16 ≤ 4 := by decide +kernel
theorem g3_bits : ∀ b, b < 256 → g3 (g2 (g1 b)) = bits 8 b := by decide +kernel
theorem mapB_congr {f g : Nat → Nat} (h : ∀ b, b < 256 → f b = g b) : ∀ k x, mapB f k x = mapB g k x
  | 0, _ => rfl
  | k + 1, x => by simp only [mapB]; rw [h _ (by omega), mapB_congr h k]
theorem mapB_bits : ∀ k x, mapB (bits 8) (k + 1) x = bits 8 x + 256 * mapB (bits 8) k (x / 256)
  | k, x => by
    simp only [mapB]
    have := bits_mod 8 x
    rw [show (2 : Nat) ^ 8 = 256 from rfl] at this
    rw [this]
theorem mapB_lt {f : Nat → Nat} (hf : ∀ b, b < 256 → f b < 256) : ∀ k x, mapB f k x < 256 ^ k
  | 0, _ => by simp [mapB]
  | k + 1, x => by
    have h1 := hf (x % 256) (by omega)
    have h2 := mapB_lt hf k (x / 256)
    simp only [mapB, Nat.pow_succ]
    omega
theorem dig {y c r : Nat} (h : y = c + 256 * r) (hc : c < 256) : y / 256 = r := by omega
theorem sumD {R0 R1 R2 c0 c1 : Nat} (h0 : R0 = c0 + 256 * R1) (h1 : R1 = c1 + 256 * R2) : R0 + R1 = (c0 + c1) + 256 * (R1 + R2) := by omega
theorem bnd {R c r k K : Nat} (h : R = c + 256 * r) (hc : c ≤ 8) (hr : r ≤ k) (hK : 8 + 256 * k = K) : R ≤ K := by omega
theorem dig2 {y c d r : Nat} (h : y = c + 256 * (d + 256 * r)) (hc : c < 256) (hd : d < 256) : y / 65536 = r := by
  rw [show 65536 = 256 * 256 from rfl, ← Nat.div_div_eq_div_mul, dig h hc, dig rfl hd]
theorem dig4 {y a b c d r : Nat} (h : y = a + 256 * (b + 256 * (c + 256 * (d + 256 * r)))) (ha : a < 256) (hb : b < 256) (hc : c < 256) (hd : d < 256) : y / 4294967296 = r := by
  rw [show 4294967296 = 65536 * 65536 from rfl, ← Nat.div_div_eq_div_mul, dig2 h ha hb, dig2 rfl hc hd]
theorem sumS {A B C a b c : Nat} (hA : A = a + 256 * B) (hC : C = b + 256 * c) : A + C = (a + b) + 256 * (B + c) := by omega
theorem lastD {S0 S2 S4 S6 S1 S3 S5 S7 a b c d : Nat} (h0 : S0 = a + 256 * S1) (h2 : S2 = b + 256 * S3) (h4 : S4 = c + 256 * S5) (h6 : S6 = d + 256 * S7) (h : a + b + c + d < 128) : (S0 + S2 + (S4 + S6)) % 128 = a + b + c + d := by omega
theorem four {a b c d : Nat} (h1 : a ≤ 8) (h2 : b ≤ 8) (h3 : c ≤ 8) (h4 : d ≤ 8) : a + b + (c + d) < 256 := by omega
theorem eight {a b c d e f g h : Nat} (h1 : a ≤ 8) (h2 : b ≤ 8) (h3 : c ≤ 8) (h4 : d ≤ 8) (h5 : e ≤ 8) (h6 : f ≤ 8) (h7 : g ≤ 8) (h8 : h ≤ 8) : a + b + (c + d) + (e + f) + (g + h) < 128 := by omega
theorem two8 {a b : Nat} (h1 : a ≤ 8) (h2 : b ≤ 8) : a + b < 256 := by omega
theorem fold8d {c0 c1 c2 c3 c4 c5 c6 c7 R0 R1 R2 R3 R4 R5 R6 R7 : Nat} (h7 : R7 = c7) (h6 : R6 = c6 + 256 * R7) (h5 : R5 = c5 + 256 * R6) (h4 : R4 = c4 + 256 * R5) (h3 : R3 = c3 + 256 * R4) (h2 : R2 = c2 + 256 * R3) (h1 : R1 = c1 + 256 * R2) (h0 : R0 = c0 + 256 * R1)
    (b0 : c0 ≤ 8) (b1 : c1 ≤ 8) (b2 : c2 ≤ 8) (b3 : c3 ≤ 8) (b4 : c4 ≤ 8) (b5 : c5 ≤ 8) (b6 : c6 ≤ 8) (b7 : c7 ≤ 8) :
    R0 + R0 / 256 < 9223372036854775808 ∧ (R0 + R0 / 256) + (R0 + R0 / 256) / 65536 < 9223372036854775808 ∧ ((R0 + R0 / 256) + (R0 + R0 / 256) / 65536) + ((R0 + R0 / 256) + (R0 + R0 / 256) / 65536) / 4294967296 < 9223372036854775808 ∧
    (((R0 + R0 / 256) + (R0 + R0 / 256) / 65536) + ((R0 + R0 / 256) + (R0 + R0 / 256) / 65536) / 4294967296) % 128 = (c0 + c1) + (c2 + c3) + (c4 + c5) + (c6 + c7) := by
  have l7 : R7 ≤ 8 := h7 ▸ b7
  have l6 : R6 ≤ 2056 := bnd h6 b6 l7 rfl
  have l5 : R5 ≤ 526344 := bnd h5 b5 l6 rfl
  have l4 : R4 ≤ 134744072 := bnd h4 b4 l5 rfl
  have l3 : R3 ≤ 34494482440 := bnd h3 b3 l4 rfl
  have l2 : R2 ≤ 8830587504648 := bnd h2 b2 l3 rfl
  have l1 : R1 ≤ 2260630401189896 := bnd h1 b1 l2 rfl
  have l0 : R0 ≤ 578721382704613384 := bnd h0 b0 l1 rfl
  rw [dig h0 (Nat.lt_of_le_of_lt b0 (by decide))]
  have s0 := sumD h0 h1
  have s1 := sumD h1 h2
  have s2 := sumD h2 h3
  have s3 := sumD h3 h4
  have s4 := sumD h4 h5
  have s5 := sumD h5 h6
  have s6 : R6 + R7 = (c6 + c7) + 256 * R7 := by rw [h6, ← h7]; omega
  have m0 : R0 + R1 ≤ 580982013105803280 := Nat.add_le_add l0 l1
  have m1 : R1 + R2 ≤ 2269460988694544 := Nat.add_le_add l1 l2
  have m2 : R2 + R3 ≤ 8865081987088 := Nat.add_le_add l2 l3
  have m3 : R3 + R4 ≤ 34629226512 := Nat.add_le_add l3 l4
  have m4 : R4 + R5 ≤ 135270416 := Nat.add_le_add l4 l5
  have m5 : R5 + R6 ≤ 528400 := Nat.add_le_add l5 l6
  have m6 : R6 + R7 ≤ 2064 := Nat.add_le_add l6 l7
  clear h0 h1 h2 h3 h4 h5 h6 h7
  generalize R0 + R1 = S0 at *
  generalize R1 + R2 = S1 at *
  generalize R2 + R3 = S2 at *
  generalize R3 + R4 = S3 at *
  generalize R4 + R5 = S4 at *
  generalize R5 + R6 = S5 at *
  generalize R6 + R7 = S6 at *
  clear l0 l1 l2 l3 l4 l5 l6
  have s01 := s0; rw [s1] at s01
  rw [dig2 s01 (two8 b0 b1) (two8 b1 b2)]
  have u0 := sumS s0 s2
  have u1 := sumS s1 s3
  have u2 := sumS s2 s4
  have u3 := sumS s3 s5
  have e := u0; rw [u1, u2, u3] at e
  rw [dig4 e (four b0 b1 b2 b3) (four b1 b2 b3 b4) (four b2 b3 b4 b5) (four b3 b4 b5 b6)]
  refine ⟨Nat.lt_of_le_of_lt m0 (by decide), Nat.lt_of_le_of_lt (Nat.add_le_add m0 m2) (by decide), Nat.lt_of_le_of_lt (Nat.add_le_add (Nat.add_le_add m0 m2) (Nat.add_le_add m4 m6)) (by decide), ?_⟩
  exact lastD s0 s2 s4 s6 (eight b0 b1 b2 b3 b4 b5 b6 b7)
theorem fold8c {y s c0 c1 c2 c3 c4 c5 c6 c7 : Nat} (hs : s = c0 + (c1 + (c2 + (c3 + (c4 + (c5 + (c6 + c7))))))) (hy : y = c0 + 256 * (c1 + 256 * (c2 + 256 * (c3 + 256 * (c4 + 256 * (c5 + 256 * (c6 + 256 * c7)))))))
    (b0 : c0 ≤ 8) (b1 : c1 ≤ 8) (b2 : c2 ≤ 8) (b3 : c3 ≤ 8) (b4 : c4 ≤ 8) (b5 : c5 ≤ 8) (b6 : c6 ≤ 8) (b7 : c7 ≤ 8) :
    y + y / 256 < 9223372036854775808 ∧ (y + y / 256) + (y + y / 256) / 65536 < 9223372036854775808 ∧ ((y + y / 256) + (y + y / 256) / 65536) + ((y + y / 256) + (y + y / 256) / 65536) / 4294967296 < 9223372036854775808 ∧
    (((y + y / 256) + (y + y / 256) / 65536) + ((y + y / 256) + (y + y / 256) / 65536) / 4294967296) % 128 = s := by
  subst hy
  rw [hs, show c0 + (c1 + (c2 + (c3 + (c4 + (c5 + (c6 + c7)))))) = (c0 + c1) + (c2 + c3) + (c4 + c5) + (c6 + c7) by omega]
  exact fold8d rfl rfl rfl rfl rfl rfl rfl rfl b0 b1 b2 b3 b4 b5 b6 b7
/-- All bytes of a word counted into its lowest. -/
theorem fold8 (n : Nat) : let y := mapB (bits 8) 8 n
    y + y / 256 < 9223372036854775808 ∧ (y + y / 256) + (y + y / 256) / 65536 < 9223372036854775808 ∧ ((y + y / 256) + (y + y / 256) / 65536) + ((y + y / 256) + (y + y / 256) / 65536) / 4294967296 < 9223372036854775808 ∧
    (((y + y / 256) + (y + y / 256) / 65536) + ((y + y / 256) + (y + y / 256) / 65536) / 4294967296) % 128 = bits 64 n := by
  have hs : bits 64 n = bits 8 n + (bits 8 (n / 256) + (bits 8 (n / 256 / 256) + (bits 8 (n / 256 / 256 / 256) + (bits 8 (n / 256 / 256 / 256 / 256) + (bits 8 (n / 256 / 256 / 256 / 256 / 256) + (bits 8 (n / 256 / 256 / 256 / 256 / 256 / 256) + bits 8 (n / 256 / 256 / 256 / 256 / 256 / 256 / 256))))))) := by
    rw [show 64 = 8 + (8 + (8 + (8 + (8 + (8 + (8 + 8)))))) from rfl, bits_add, bits_add, bits_add, bits_add, bits_add, bits_add, bits_add]
  have b0 := bits_le 8 n
  have b1 := bits_le 8 (n / 256)
  have b2 := bits_le 8 (n / 256 / 256)
  have b3 := bits_le 8 (n / 256 / 256 / 256)
  have b4 := bits_le 8 (n / 256 / 256 / 256 / 256)
  have b5 := bits_le 8 (n / 256 / 256 / 256 / 256 / 256)
  have b6 := bits_le 8 (n / 256 / 256 / 256 / 256 / 256 / 256)
  have b7 := bits_le 8 (n / 256 / 256 / 256 / 256 / 256 / 256 / 256)
  have hy : mapB (bits 8) 8 n = bits 8 n + 256 * (bits 8 (n / 256) + 256 * (bits 8 (n / 256 / 256) + 256 * (bits 8 (n / 256 / 256 / 256) + 256 * (bits 8 (n / 256 / 256 / 256 / 256) + 256 * (bits 8 (n / 256 / 256 / 256 / 256 / 256) + 256 * (bits 8 (n / 256 / 256 / 256 / 256 / 256 / 256) + 256 * (bits 8 (n / 256 / 256 / 256 / 256 / 256 / 256 / 256)))))))) := by
    rw [mapB_bits, mapB_bits, mapB_bits, mapB_bits, mapB_bits, mapB_bits, mapB_bits, mapB_bits]
    simp [mapB]
  generalize bits 8 n = c0 at *
  generalize bits 8 (n / 256) = c1 at *
  generalize bits 8 (n / 256 / 256) = c2 at *
  generalize bits 8 (n / 256 / 256 / 256) = c3 at *
  generalize bits 8 (n / 256 / 256 / 256 / 256) = c4 at *
  generalize bits 8 (n / 256 / 256 / 256 / 256 / 256) = c5 at *
  generalize bits 8 (n / 256 / 256 / 256 / 256 / 256 / 256) = c6 at *
  generalize bits 8 (n / 256 / 256 / 256 / 256 / 256 / 256 / 256) = c7 at *
  exact fold8c hs hy b0 b1 b2 b3 b4 b5 b6 b7
theorem shr_n64 (n v : Nat) (hv : v < 64) : shrI .u64 (n : Int) (v : Int) = ((n / 2 ^ v : Nat) : Int) := by
  unfold shrI
  have : min (v : Int).toNat IntKind.u64.bits = v := by simp [IntKind.bits]; omega
  rw [this, Int.fdiv_eq_ediv_of_nonneg _ (Int.pow_nonneg (by omega))]
  simp
theorem bw_and_i64 (n : Nat) (hn : n < 9223372036854775808) : bw .and .i64 (n : Int) 127 = ((n % 128 : Nat) : Int) := by
  have e1 : BitVec.ofInt IntKind.i64.bits (n : Int) = BitVec.ofNat 64 n := by simp [IntKind.bits]
  have e2 : BitVec.ofInt IntKind.i64.bits (127 : Int) = BitVec.ofNat 64 127 := rfl
  have e3 : (BitVec.ofNat 64 n &&& BitVec.ofNat 64 127).toNat = n % 128 := by
    have h := Nat.and_two_pow_sub_one_eq_mod n 7
    rw [BitVec.toNat_and, BitVec.toNat_ofNat, BitVec.toNat_ofNat, Nat.mod_eq_of_lt (show n < 2 ^ 64 by omega)]
    exact h
  unfold bw
  simp only [e1, e2]
  show IntKind.i64.wrap (((BitVec.ofNat 64 n &&& BitVec.ofNat 64 127).toNat : Nat) : Int) = _
  rw [e3, i64_in _ (by omega)]
theorem bits_cntP (n : Nat) : ∀ d, bits d n = cntP (bitI (n : Int)) d
  | 0 => rfl
  | d + 1 => by
    rw [bits_add d 1, bits_cntP n d]
    simp only [cntP, bits]
    have : bitI (n : Int) d = decide (n / 2 ^ d % 2 = 1) := by
      unfold bitI
      rw [show ((n : Int) / 2 ^ d) = ((n / 2 ^ d : Nat) : Int) by simp]
      congr 1
      simp only [eq_iff_iff]; omega
    rw [this]
    by_cases h : n / 2 ^ d % 2 = 1
    · simp [h]
    · have h : n / 2 ^ d % 2 = 0 := by omega
      simp [h]
theorem mask85 : (6148914691236517205 : Int) = ((rep 85 8 : Nat) : Int) := by decide
theorem mask51 : (3689348814741910323 : Int) = ((rep 51 8 : Nat) : Int) := by decide
theorem mask15 : (1085102592571150095 : Int) = ((rep 15 8 : Nat) : Int) := by decide
theorem swar1 {n : Nat} (hn : n < 18446744073709551616) : IntKind.wrap IntKind.u64 (bw BinOp.and IntKind.u64 (shrI IntKind.u64 (n : Int) 1) 6148914691236517205 + bw BinOp.and IntKind.u64 (n : Int) 6148914691236517205) = ((mapB g1 8 n : Nat) : Int) := by
  have hr : rep 85 8 < 18446744073709551616 := by decide
  have hs : shrI IntKind.u64 (n : Int) 1 = ((n / 2 : Nat) : Int) := shr_n64 n 1 (by omega)
  have hl := mapB_lt g1_lt 8 n
  rw [mask85, hs, bw_and64 _ _ (by omega) hr, bw_and64 _ _ hn hr, ← Int.natCast_add, step1 8 n, Go.IntWalk.u64_in _ ⟨by omega, by omega⟩]
theorem swar2 {n : Nat} (hn : n < 18446744073709551616) (hl : mapB g2 8 n < 18446744073709551616) : IntKind.wrap IntKind.u64 (bw BinOp.and IntKind.u64 (shrI IntKind.u64 (n : Int) 2) 3689348814741910323 + bw BinOp.and IntKind.u64 (n : Int) 3689348814741910323) = ((mapB g2 8 n : Nat) : Int) := by
  have hr : rep 51 8 < 18446744073709551616 := by decide
  have hs : shrI IntKind.u64 (n : Int) 2 = ((n / 4 : Nat) : Int) := shr_n64 n 2 (by omega)
  rw [mask51, hs, bw_and64 _ _ (by omega) hr, bw_and64 _ _ hn hr, ← Int.natCast_add, step2 8 n, Go.IntWalk.u64_in _ ⟨by omega, by omega⟩]
theorem swar3 {n : Nat} {f : Nat → Nat} (hf : halves f) (hs : mapB f 8 n < 4919131752989213765) : bw BinOp.and IntKind.u64 (IntKind.wrap IntKind.u64 (shrI IntKind.u64 ((mapB f 8 n : Nat) : Int) 4 + ((mapB f 8 n : Nat) : Int))) 1085102592571150095 = ((mapB (fun b => g3 (f b)) 8 n : Nat) : Int) := by
  have hr : rep 15 8 < 18446744073709551616 := by decide
  have h4 : shrI IntKind.u64 ((mapB f 8 n : Nat) : Int) 4 = ((mapB f 8 n / 16 : Nat) : Int) := shr_n64 _ 4 (by omega)
  rw [mask15, h4, ← Int.natCast_add, Go.IntWalk.u64_in _ ⟨by omega, by omega⟩, bw_and64 _ _ (by omega) hr, step3 hf 8 n]
theorem mapB_le {f : Nat → Nat} {c : Nat} (hf : ∀ b, b < 256 → f b ≤ c) : ∀ k x, mapB f k x ≤ rep c k
  | 0, _ => by simp [mapB, rep]
  | k + 1, x => by
    have h1 := hf (x % 256) (by omega)
    have h2 := mapB_le hf k (x / 256)
    simp only [mapB, rep]
    omega
theorem g2_68 : ∀ b, b < 256 → g2 (g1 b) ≤ 68 := by decide +kernel
theorem eq_bits_OnesCount64 : Eqs c_bits_OnesCount64 g_bits_OnesCount64 := Eqs.tot fun (x, _) hf => by
  change Int at x
  have hx : 0 ≤ x ∧ x ≤ 18446744073709551615 := fine_u64.1 hf.1
  obtain ⟨n, rfl⟩ := Int.eq_ofNat_of_zero_le hx.1
  have hn : n < 18446744073709551616 := by omega
  show g_bits_OnesCount64 ((n : Int), ()) = some (cntW (n : Int), ())
  have hy := mapB_le g2_68 8 n
  have hy2 : rep 68 8 = 4919131752989213764 := by decide
  have hl1 : mapB g1 8 n < 18446744073709551616 := mapB_lt g1_lt 8 n
  have hc2 : mapB g2 8 (mapB g1 8 n) = mapB (fun b => g2 (g1 b)) 8 n := mapB_comp g1_lt 8 n
  have h3 := swar3 (f := fun b => g2 (g1 b)) g2_halves (n := n) (by omega)
  have hb : mapB (fun b => g3 (g2 (g1 b))) 8 n = mapB (bits 8) 8 n := mapB_congr g3_bits 8 n
  obtain ⟨f1, f2, f3, f4⟩ := fold8 n
  have f0 : mapB (bits 8) 8 n < 9223372036854775808 := by omega
  rw [g_bits_OnesCount64]
  rw [swar1 hn, swar2 hl1 (by rw [hc2]; omega), hc2]
  have hw : IntKind.wrap IntKind.u64 ((mapB (fun b => g2 (g1 b)) 8 n : Nat) : Int) = ((mapB (fun b => g2 (g1 b)) 8 n : Nat) : Int) := Go.IntWalk.u64_in _ ⟨by omega, by omega⟩
  rw [h3, hb]
  generalize mapB (bits 8) 8 n = Y at *
  have e8 : shrI IntKind.u64 (Y : Int) 8 = ((Y / 256 : Nat) : Int) := shr_n64 Y 8 (by omega)
  have w8 : IntKind.wrap IntKind.u64 ((Y : Int) + shrI IntKind.u64 (Y : Int) 8) = ((Y + Y / 256 : Nat) : Int) := by rw [e8, ← Int.natCast_add, Go.IntWalk.u64_in _ ⟨by omega, by omega⟩]
  rw [w8]
  generalize Y + Y / 256 = Z at *
  have e16 : shrI IntKind.u64 (Z : Int) 16 = ((Z / 65536 : Nat) : Int) := shr_n64 Z 16 (by omega)
  have w16 : IntKind.wrap IntKind.u64 ((Z : Int) + shrI IntKind.u64 (Z : Int) 16) = ((Z + Z / 65536 : Nat) : Int) := by rw [e16, ← Int.natCast_add, Go.IntWalk.u64_in _ ⟨by omega, by omega⟩]
  rw [w16]
  generalize Z + Z / 65536 = U at *
  have e32 : shrI IntKind.u64 (U : Int) 32 = ((U / 4294967296 : Nat) : Int) := shr_n64 U 32 (by omega)
  have w32 : IntKind.wrap IntKind.u64 ((U : Int) + shrI IntKind.u64 (U : Int) 32) = ((U + U / 4294967296 : Nat) : Int) := by rw [e32, ← Int.natCast_add, Go.IntWalk.u64_in _ ⟨by omega, by omega⟩]
  rw [w32, i64_in _ (by omega), bw_and_i64 _ f3, f4, bits_cntP n 64]
  unfold cntW
  rw [filter_cnt]
end Go.Co.N
end

section
namespace Go.Co.N
open Go Go.Co

theorem guardK_some {R : Type} {c : Bool} {r : Option R} {y : R} (h : guardK c r = some y) : c = true ∧ r = some y := by
  unfold guardK at h
  cases c with
  | true => exact ⟨rfl, h⟩
  | false => cases h
theorem eq_shape_Child : Eqs c_shape_Child g_shape_Child := Eqs.tot fun (v, i, _) _ => by
  change Int at v i
  show g_shape_Child (v, i, ()) = some (child v i, ())
  simp only [g_shape_Child, child]
  by_cases h1 : v < 0
  · have : ¬ (0 ≤ v ∧ v < 21 ∧ 0 ≤ i ∧ i < 4) := by omega
    simp [h1, this]
  by_cases h2 : 21 ≤ v
  · have : ¬ (0 ≤ v ∧ v < 21 ∧ 0 ≤ i ∧ i < 4) := by omega
    simp [h1, h2, this]
  by_cases h3 : i < 0
  · have : ¬ (0 ≤ v ∧ v < 21 ∧ 0 ≤ i ∧ i < 4) := by omega
    simp [h1, h2, h3, this]
  by_cases h4 : 4 ≤ i
  · have : ¬ (0 ≤ v ∧ v < 21 ∧ 0 ≤ i ∧ i < 4) := by omega
    simp [h1, h2, h3, h4, this]
  have hs : shlI IntKind.i64 v 2 = v * 4 := by
    unfold shlI
    have : min (2 : Int).toNat IntKind.i64.bits = 2 := by decide
    rw [this, i64_in _ (by omega)]
    omega
  have hc : 0 ≤ v ∧ v < 21 ∧ 0 ≤ i ∧ i < 4 := by omega
  simp only [h1, h2, h3, h4, decide_false, cond_false, hs, if_pos hc]
  rw [i64_in (v * 4 + 1) (by omega), i64_in (v * 4 + 1 + i) (by omega), show v * 4 + 1 + i = 4 * v + 1 + i by omega]
theorem eq_seats_Count : Eqs c_seats_Count g_seats_Count := Eqs.tot fun _ _ => rfl
theorem eq_seats_bit : Eqs c_seats_bit g_seats_bit := Eqs.tot fun (s, _) _ => by
  change Int at s
  show g_seats_bit (s, ()) = some (bitOf s, ())
  simp only [g_seats_bit, bitOf]
  by_cases h1 : s < 0
  · have : ¬ (0 ≤ s ∧ s < 64) := by omega
    simp [h1, this]
  by_cases h2 : 64 ≤ s
  · have : ¬ (0 ≤ s ∧ s < 64) := by omega
    simp [h1, h2, this]
  obtain ⟨n, rfl⟩ := Int.eq_ofNat_of_zero_le (show 0 ≤ s by omega)
  have hc : 0 ≤ (n : Int) ∧ (n : Int) < 64 := by omega
  simp only [h1, h2, decide_false, cond_false, if_pos hc, shl_one64 n (by omega), Int.toNat_natCast]

/-! ### Lists alike -/
theorem list_lat {α : Type} [Inhabited α] {a b : List α} (hl : a.length = b.length) : a = b ↔ ∀ i : Nat, i < a.length → lat a (i : Int) = lat b (i : Int) := by
  constructor
  · rintro rfl i _; rfl
  · intro h
    refine List.ext_getElem hl fun i h1 h2 => ?_
    have := h i h1
    rwa [lat_nat a i h1, lat_nat b i h2] at this
theorem same_lfp {α : Type} [Inhabited α] [DecidableEq α] (f : (List α × List α × Int × Int × Unit) × Unit × Unit → Option (((List α × List α × Int × Int × Unit) × Unit × Unit) ⊕ ((Bool × Unit) × Unit × Unit ⊕ Unit × Unit × Unit)))
    (hf : ∀ a b c d, f ((a, b, c, d, ()), (), ()) = bif decide (d < c) then bif decide (0 ≤ d) && decide (d < (a.length : Int)) then bif decide (0 ≤ d) && decide (d < (b.length : Int)) then bif !decide (lat a d = lat b d) then some (Sum.inr (Sum.inl ((false, ()), (), ()))) else some (Sum.inl ((a, b, c, IntKind.wrap IntKind.i64 (d + 1), ()), (), ())) else none else none else some (Sum.inr (Sum.inr ((), (), ()))))
    (a b : List α) (ha : a.length ≤ 9223372036854775807) :
    (bif !decide ((a.length : Int) = (b.length : Int)) then some (false, ()) else Option.bind (lfp f ((a, b, (a.length : Int), 0, ()), (), ())) fun z => Sum.elim (fun x => some (x.fst.fst, ())) (fun _ => some (true, ())) z) = some (decide (a = b), ()) := by
  by_cases hl : a.length = b.length
  case neg =>
    have h1 : ¬ (a.length : Int) = (b.length : Int) := by omega
    have h2 : ¬ a = b := fun e => hl (by rw [e])
    simp [h1, h2]
  have h1 : (a.length : Int) = (b.length : Int) := by omega
  simp only [h1, decide_true, Bool.not_true, cond_false]
  rw [lfp_all' (fun i => ((a, b, (b.length : Int), (i : Int), ()), (), ())) b.length (fun i => decide (lat a (i : Int) = lat b (i : Int))) (.inl ((false, ()), (), ())) (.inr ((), (), ())) (by rfl)
    (fun i hi hk => by
      have h2 : (i : Int) < (b.length : Int) := by omega
      rw [hf]
      simp only [h1, h2, hk, decide_true, cond_true, Int.natCast_nonneg, Bool.and_self, Bool.not_true, cond_false, wrap1' hi (by omega)])
    (fun i hi hk => by
      have h2 : (i : Int) < (b.length : Int) := by omega
      rw [hf]
      simp only [h1, h2, hk, decide_true, cond_true, Int.natCast_nonneg, Bool.and_self, Bool.not_false])
    (by rw [hf]; simp)]
  have hk : allN b.length (fun i => decide (lat a (i : Int) = lat b (i : Int))) = decide (a = b) := bool_eq (by
    rw [allN_iff, decide_eq_true_eq, list_lat hl, hl]
    exact ⟨fun h i hi => by simpa using h i hi, fun h i hi => by simpa using h i hi⟩)
  rw [hk]
  cases decide (a = b) <;> rfl
theorem eq_ref09_Same : Eqs c_ref09_Same g_ref09_Same := Eqs.tot fun (a, b, _) hf => by
  change List Seat at a b
  have ha : a.length * 16 ≤ 140737488355328 := (Fine.list.1 hf.1).1
  exact same_lfp g_ref09_Same_r1 (fun _ _ _ _ => rfl) a b (by omega)
theorem eq_ref08_Same : Eqs c_ref08_Same g_ref08_Same := Eqs.tot fun (a, b, _) hf => by
  change List Int at a b
  have ha : a.length * 8 ≤ 140737488355328 := (Fine.list.1 hf.1).1
  exact same_lfp g_ref08_Same_r1 (fun _ _ _ _ => rfl) a b (by omega)
/-! ### Items opened -/
/-! ### Plans' small ones -/
theorem eq_plan_nodeKey : Eqs c_plan_nodeKey g_plan_nodeKey := fun (t, v, _) y _ h => by
  change Tree at t
  change Int at v
  obtain ⟨hg, h⟩ := guardK_some h
  have hb : 0 ≤ v ∧ v ≤ 84 := betw_iff.1 hg
  obtain ⟨h0, h1⟩ := hb
  rw [← h]
  show g_plan_nodeKey (t, v, ()) = some (nodeK t v, ())
  simp only [g_plan_nodeKey, nodeK]
  by_cases hs : 0 ≤ slot v
  · have : slot v < 64 := by unfold slot; split <;> omega
    simp [hs, this]
  · have hv : v < 21 := by
      unfold slot at hs
      split at hs <;> omega
    simp [hs, h0, hv]
theorem gone_go (r : Roster) : ∀ (l : List Int) (a : List Co.Seat), foldE (Z := (List Seat × Unit) × Unit × Unit) (fun a w => Sum.inl (a ++ [⟨w, findR r w⟩])) (fun a => ((a, ()), (), ())) l a = ((a ++ goneOf r l, ()), (), ())
  | [], a => by simp [foldE, goneOf]
  | w :: l, a => by
    simp only [foldE]
    rw [gone_go r l]
    simp [goneOf]
theorem eq_plan_leavers : Eqs c_plan_leavers g_plan_leavers := fun (r, l, _) y hf h => by
  change List Int at l
  obtain ⟨hg, h⟩ := guardK_some h
  have hl : l.length ≤ 64 := of_decide_eq_true hg
  rw [← h]
  show g_plan_leavers (r, l, ()) = some (goneOf r l, ())
  simp only [g_plan_leavers]
  have hloop := lfp_list (f := g_plan_leavers_r1) l (fun i (a : List Co.Seat) => (((), a, l, (l.length : Int), (i : Int), ()), (r, ()), ()))
    (fun a w => Sum.inl (a ++ [⟨w, findR r w⟩])) (fun i _ a => a.length = i) (fun a => ((a, ()), (), ()))
    (fun i x rest a _ hi hx ha => by
      refine ⟨fun a' ha' => ?_, ?_⟩
      · simp only [Sum.inl.injEq] at ha'
        subst ha'; simp [ha]
      · have h1 : (i : Int) < (l.length : Int) := by omega
        have h2 : (a.length + 1) * 16 ≤ 140737488355328 := by omega
        simp only [g_plan_leavers_r1, h1, hx, h2, decide_true, cond_true, Int.natCast_nonneg, Bool.and_self, wrap1' hi (by omega)]
        rfl)
    (fun a _ => by simp [g_plan_leavers_r1]) l 0 [] rfl (by omega) rfl
  rw [show lfp g_plan_leavers_r1 (((), [], l, (l.length : Int), 0, ()), (r, ()), ()) = _ from hloop, gone_go]
  simp
theorem eq_roster_names : Eqs c_roster_names g_roster_names := fun (r, b, n, _) y hf h => by
  change Int at b n
  obtain ⟨hg, h⟩ := guardK_some h
  have hn : 0 ≤ n ∧ n ≤ 64 := by simpa using hg
  rw [← h]
  show g_roster_names (r, b, n, ()) = some (namesFree r b n, ())
  simp only [g_roster_names, namesFree]
  by_cases h0 : n = 0
  · simp [h0]
  by_cases h1 : b < 1
  · have : ¬ 1 ≤ b := by omega
    simp [h0, h1, this]
  have h1' : 1 ≤ b := by omega
  rw [i64_in (32768 - n) (by omega)]
  by_cases h2 : 32768 - n < b
  · have : ¬ b ≤ 32768 - n := by omega
    simp [h0, h1, h2, this]
  have h2' : b ≤ 32768 - n := by omega
  simp only [h0, h1, h2, h1', h2', decide_false, decide_true, cond_false, Bool.false_or, Bool.true_and]
  rw [lfp_find' (fun i => (((), (), 64, (i : Int), ()), (r, b, n, ()), ())) 64 (fun i => decide (b ≤ (ent r i).Base) && decide ((ent r i).Base < b + n)) (fun i => Sum.inl (((i : Int), ()), (r, b, n, ()), ())) (.inr ((), (r, b, n, ()), ())) (by rfl)
    (fun i hi hb => by
      have h1 : (i : Int) < 64 := by omega
      have hent : Arr.get r (i : Int) = ent r i := rfl
      simp only [g_roster_names_r1, h1, hent, decide_true, cond_true, Int.natCast_nonneg, Bool.and_self, wrap1 i (by omega), i64_in (b + n) (by omega)]
      cases hq : decide (b ≤ (ent r i).Base) with
      | false => rfl
      | true =>
        have : decide ((ent r i).Base < b + n) = false := by simpa [hq] using hb
        rw [this]; rfl)
    (fun i hi hb => by
      have h1 : (i : Int) < 64 := by omega
      have hent : Arr.get r (i : Int) = ent r i := rfl
      simp only [Bool.and_eq_true] at hb
      simp only [g_roster_names_r1, h1, hent, decide_true, cond_true, Int.natCast_nonneg, Bool.and_self, i64_in (b + n) (by omega), hb.1, hb.2])
    (by simp [g_roster_names_r1])]
  simp only [Option.bind_some]
  cases hx : fstN 64 (fun i => decide (b ≤ (ent r i).Base) && decide ((ent r i).Base < b + n)) 0 with
  | none =>
    have : allN 64 (fun s => !(decide (b ≤ (ent r s).Base) && decide ((ent r s).Base < b + n))) = true := allN_iff.2 fun i hi => by
      have := fstN_none hx i (by omega) (by omega)
      simp only [this, Bool.not_false]
    rw [this]; rfl
  | some i =>
    obtain ⟨_, hi, hp, _⟩ := fstN_some hx
    have : allN 64 (fun s => !(decide (b ≤ (ent r s).Base) && decide ((ent r s).Base < b + n))) = false := by
      cases hq : allN 64 (fun s => !(decide (b ≤ (ent r s).Base) && decide ((ent r s).Base < b + n))) with
      | false => rfl
      | true =>
        have := allN_iff.1 hq i (by omega)
        rw [hp] at this; cases this
    have h0 : 0 ≤ (i : Int) := by omega
    rw [this]; simp [h0]
end Go.Co.N
end

section
namespace Go.Co.N
open Go Go.Co

/-- Who was seen, once. -/
def SeenM (h : List (Int × Int)) (seen : List Int) : Prop := ∀ w, mget h w = if w ∈ seen then some 1 else none
theorem SeenM.nil : SeenM [] [] := fun w => by simp [mget]
def seeM (h : List (Int × Int)) (seen : List Int) (x : Int) : List (Int × Int) := mput h x (bif decide (x ∈ seen) then 2 else 1)
theorem SeenM.see {h : List (Int × Int)} {seen : List Int} {x : Int} (hs : SeenM h seen) (hx : x ∉ seen) : SeenM (seeM h seen x) (x :: seen) := fun w => by
  unfold seeM
  rw [mget_mput]
  simp only [hx, decide_false, cond_false, List.mem_cons]
  by_cases hw : x = w
  · subst hw; simp
  · have hw' : ¬ w = x := fun e => hw e.symm
    simp only [hw, hw', if_false, false_or]
    exact hs w
theorem SeenM.count {h : List (Int × Int)} {seen : List Int} (hs : SeenM h seen) (x : Int) : mput h x (IntKind.wrap IntKind.i64 (Option.getD (mget h x) 0 + 1)) = seeM h seen x := by
  unfold seeM
  rw [hs x]
  by_cases hx : x ∈ seen
  · simp only [hx, if_true, decide_true, cond_true, Option.getD_some]
    rw [i64_in _ (by omega)]; rfl
  · simp only [hx, if_false, decide_false, cond_false, Option.getD_none]
    rw [i64_in _ (by omega)]; rfl
theorem SeenM.twice (h : List (Int × Int)) (seen : List Int) (x : Int) : decide (1 < Option.getD (mget (seeM h seen x) x) 0) = decide (x ∈ seen) := by
  unfold seeM
  rw [mget_mput]
  by_cases hx : x ∈ seen <;> simp [hx]
section
variable {Z : Type} (r : Roster) (leaves : Bool) (fin : List (Int × Int) × List Int → Z) (err : Int → List (Int × Int) → Z)
def seeStep (a : List (Int × Int) × List Int) (x : Int) : (List (Int × Int) × List Int) ⊕ Z :=
  bif decide (personE r a.2 leaves x = 0) then Sum.inl (seeM a.1 a.2 x, x :: a.2) else Sum.inr (err (personE r a.2 leaves x) (seeM a.1 a.2 x))
theorem see_fold : ∀ (l : List Int) (h : List (Int × Int)) (seen : List Int), SeenM h seen → ∃ h', (askL r leaves l seen = 0 → SeenM h' (askSeen l seen)) ∧
    foldE (seeStep r leaves err) fin l (h, seen) = bif decide (askL r leaves l seen = 0) then fin (h', askSeen l seen) else err (askL r leaves l seen) h'
  | [], h, seen, hs => ⟨h, fun _ => by simpa [askSeen] using hs, by simp [foldE, askL, askSeen]⟩
  | w :: l, h, seen, hs => by
    simp only [foldE, askL, seeStep]
    by_cases hp : personE r seen leaves w = 0
    · simp only [hp, decide_true, cond_true]
      obtain ⟨h', h1, h2⟩ := see_fold l (seeM h seen w) (w :: seen) (hs.see (personE_0.1 hp).2.2.1)
      refine ⟨h', fun e => ?_, ?_⟩
      · have := h1 e
        simpa [askSeen] using this
      · rw [h2]; simp [askSeen]
    · refine ⟨seeM h seen w, fun e => ?_, ?_⟩
      · simp only [hp, decide_false, cond_false] at e
      · simp [hp]
end
/-- The program's round. -/
theorem see_round {b : Batch} (r : Roster) (leaves : Bool) (l : List Int) (i : Nat) (x : Int) (h : List (Int × Int)) (seen : List Int) (hi : i < l.length) (hl : l.length ≤ 9223372036854775807) (hx : lat l (i : Int) = x) (hs : SeenM h seen) :
    g_roster_Fits_r1 ((leaves, (bif leaves then 16 else 17), (), (), l, (l.length : Int), (i : Int), ()), (r, b, (), ()), h, ()) =
      some (match seeStep r leaves (fun e h => Sum.inl ((e, ()), (r, b, (), ()), h, ())) (h, seen) x with
        | .inl a' => .inl ((leaves, (bif leaves then 16 else 17), (), (), l, (l.length : Int), ((i + 1 : Nat) : Int), ()), (r, b, (), ()), a'.1, ())
        | .inr z => .inr z) := by
  have h1 : (i : Int) < (l.length : Int) := by omega
  simp only [g_roster_Fits_r1, h1, decide_true, cond_true, Int.natCast_nonneg, Bool.and_self, hx, hs.count, SeenM.twice, wrap1' hi hl]
  unfold seeStep personE
  by_cases h2 : x < 0
  · have : ¬ 0 ≤ x := by omega
    simp [h2, this]
  by_cases h3 : 256 ≤ x
  · have : ¬ x < 256 := by omega
    simp [h2, h3, this]
  have h4 : 0 ≤ x := by omega
  have h5 : x < 256 := by omega
  by_cases h6 : x ∈ seen
  · simp [h2, h3, h4, h5, h6]
  cases leaves <;> by_cases h7 : 0 ≤ findR r x <;> simp [h2, h3, h4, h5, h6, h7]
theorem see_lfp {b : Batch} (r : Roster) (leaves : Bool) (l : List Int) (h : List (Int × Int)) (seen : List Int) (hl : l.length ≤ 9223372036854775807) (hs : SeenM h seen) :
    ∃ h', (askL r leaves l seen = 0 → SeenM h' (askSeen l seen)) ∧ lfp g_roster_Fits_r1 ((leaves, (bif leaves then 16 else 17), (), (), l, (l.length : Int), 0, ()), (r, b, (), ()), h, ()) =
      some (bif decide (askL r leaves l seen = 0) then .inr ((), (r, b, (), ()), h', ()) else .inl ((askL r leaves l seen, ()), (r, b, (), ()), h', ())) := by
  obtain ⟨h', h1, h2⟩ := see_fold r leaves (fun a : List (Int × Int) × List Int => (Sum.inr ((), (r, b, (), ()), a.1, ()) : (Int × Unit) × (Vector Entry 64 × Batch × Unit × Unit) × List (Int × Int) × Unit ⊕ Unit × (Vector Entry 64 × Batch × Unit × Unit) × List (Int × Int) × Unit))
    (fun e h => Sum.inl ((e, ()), (r, b, (), ()), h, ())) l h seen hs
  refine ⟨h', h1, ?_⟩
  rw [← h2]
  exact lfp_list (f := g_roster_Fits_r1) l (fun i (a : List (Int × Int) × List Int) => ((leaves, (bif leaves then 16 else 17), (), (), l, (l.length : Int), (i : Int), ()), (r, b, (), ()), a.1, ()))
    (seeStep r leaves (fun e h => Sum.inl ((e, ()), (r, b, (), ()), h, ()))) (fun _ _ a => SeenM a.1 a.2) (fun a => .inr ((), (r, b, (), ()), a.1, ()))
    (fun i x rest a _ hi hx ha => by
      refine ⟨fun a' ha' => ?_, (see_round (b := b) r leaves l i x a.1 a.2 hi hl hx ha).trans (by cases seeStep r leaves (fun e h => (Sum.inl ((e, ()), (r, b, (), ()), h, ()) : (Int × Unit) × (Vector Entry 64 × Batch × Unit × Unit) × List (Int × Int) × Unit ⊕ Unit × (Vector Entry 64 × Batch × Unit × Unit) × List (Int × Int) × Unit)) (a.1, a.2) x <;> rfl)⟩
      unfold seeStep at ha'
      by_cases hp : personE r a.2 leaves x = 0
      · simp only [hp, decide_true, cond_true, Sum.inl.injEq] at ha'
        subst ha'
        exact ha.see (personE_0.1 hp).2.2.1
      · simp [hp] at ha')
    (fun a _ => by simp [g_roster_Fits_r1]) l 0 (h, seen) rfl (by omega) hs
theorem eq_roster_Fits : Eqs c_roster_Fits g_roster_Fits := Eqs.tot fun (r, b, _) hf => by
  change Batch at b
  have hb : Fine (.list .i) b.Leaves ∧ Fine (.list .i) b.Joins := fine_batch.1 hf.2.1
  have hL : b.Leaves.length * 8 ≤ 140737488355328 := fine_li hb.1
  have hJ : b.Joins.length * 8 ≤ 140737488355328 := fine_li hb.2
  show g_roster_Fits (r, b, ()) = some (fits r b, ())
  simp only [g_roster_Fits, fits]
  have hck : decide (chkR r = 0) = goodRoster r := by
    cases hg : goodRoster r <;> simp [chkR, hg]
  cases hg : goodRoster r with
  | false => simp [chkR, hg]
  | true =>
    rw [hck, hg]
    simp only [Bool.not_true, cond_false, cond_true]
    obtain ⟨h1, k1, k2⟩ := see_lfp (b := b) r true b.Leaves [] [] (by omega) .nil
    simp only [cond_true] at k2
    rw [k2]
    by_cases ha : askL r true b.Leaves [] = 0
    case neg => simp [ha]
    have hs1 := k1 ha
    have hc := cntW_le (taken r)
    have hl := askL_len ha
    obtain ⟨h2, k3, k4⟩ := see_lfp (b := b) r false b.Joins h1 (askSeen b.Leaves []) (by omega) hs1
    simp only [cond_false] at k4
    have hcg : ∀ (l s s' : List Int), (∀ x, x ∈ s ↔ x ∈ s') → askL r false l s = askL r false l s' := by
      intro l
      induction l with
      | nil => intro _ _ _; rfl
      | cons w l ih =>
        intro s s' hss
        have hp : personE r s false w = personE r s' false w := by simp only [personE, hss w]
        simp only [askL, hp]
        rw [ih (w :: s) (w :: s') fun x => by simp [hss x]]
    have hsw : askL r false b.Joins (askSeen b.Leaves []) = askL r false b.Joins b.Leaves := hcg _ _ _ fun x => by simp [askSeen]
    simp only [ha, decide_true, cond_true, Option.bind_some, Sum.elim_inr]
    rw [k4, hsw]
    by_cases hj : askL r false b.Joins b.Leaves = 0
    case neg => simp [hj]
    have hjl := askL_len hj
    simp only [hj, decide_true, cond_true, Option.bind_some, Sum.elim_inr]
    rw [i64_in (64 - cntW (taken r)) (by omega), i64_in _ (by omega)]
    by_cases h3 : (b.Joins.length : Int) ≤ 64 - cntW (taken r) + b.Leaves.length
    · have : ¬ 64 - cntW (taken r) + (b.Leaves.length : Int) < b.Joins.length := by omega
      simp [h3, this]
    · have : 64 - cntW (taken r) + (b.Leaves.length : Int) < b.Joins.length := by omega
      simp [h3, this]
end Go.Co.N
end

section
namespace Go.Co.N
open Go Go.Co

/-- The free slots of a roster, rising. -/
def freeR (r : Roster) : List Nat := (List.range 64).filter fun s => !isOn r s
theorem freeL_taken (r : Roster) : freeL (taken r) = freeR r := by
  unfold freeL freeR taken
  refine List.filter_congr fun i hi => ?_
  have hi : i < 64 := by simpa using hi
  rw [bitI_word]; simp [hi]
theorem freeR_len (r : Roster) : (freeR r).length = freeN r := by
  unfold freeR freeN
  rw [filter_cnt]
theorem range_split {n s : Nat} {l1 l2 : List Nat} (h : List.range n = l1 ++ s :: l2) : (∀ k, k < s → k ∈ l1) ∧ s < n ∧ (∀ x ∈ l2, x ≠ s) ∧ s ∉ l1 := by
  have hp : (l1 ++ s :: l2).Pairwise (· < ·) := h ▸ List.pairwise_lt_range
  obtain ⟨_, h2, h3⟩ := List.pairwise_append.1 hp
  have h2 := List.pairwise_cons.1 h2
  have hs : s < n := by
    have : s ∈ List.range n := by rw [h]; simp
    simpa using this
  refine ⟨fun k hk => ?_, hs, fun x hx => Nat.ne_of_gt (h2.1 x hx), fun hm => absurd (h3 s hm s (List.mem_cons_self ..)) (Nat.lt_irrefl _)⟩
  have : k ∈ List.range n := by simp; omega
  rw [h] at this
  rcases List.mem_append.1 this with hm | hm
  · exact hm
  · rcases List.mem_cons.1 hm with rfl | hm
    · omega
    · have := h2.1 k hm; omega
theorem freeR_cons {r : Roster} {s : Nat} {F : List Nat} (h : freeR r = s :: F) : s < 64 ∧ lowFree r = s ∧ ∀ e : Entry, e.Base ≠ 0 → freeR (Arr.put r (s : Int) e) = F := by
  obtain ⟨l1, l2, h1, h2, h3, h4⟩ := List.filter_eq_cons_iff.1 h
  obtain ⟨k1, k2, k3, k4⟩ := range_split h1
  have hf : isOn r s = false := by simpa using h3
  refine ⟨k2, ?_, fun e he => ?_⟩
  · have hpos : 0 < freeN r := by rw [← freeR_len, h]; simp
    obtain ⟨t, ht, e1, e2, e3⟩ := lowFree_ok hpos
    rw [e1]
    have h5 : ¬ t < s := fun hlt => by
      have := h2 t (k1 t hlt)
      rw [e2] at this; simp at this
    have h6 : ¬ s < t := fun hlt => by rw [e3 s hlt] at hf; cases hf
    omega
  · have hon : ∀ x, isOn (Arr.put r (s : Int) e) x = if s = x then true else isOn r x := fun x => by
      rw [isOn_put r k2]
      simp [he]
    unfold freeR
    rw [h1, List.filter_append, List.filter_cons]
    have e1 : l1.filter (fun x => !isOn (Arr.put r (s : Int) e) x) = [] := List.filter_eq_nil_iff.2 fun x hx => by
      rw [hon]
      split
      · simp
      · exact h2 x hx
    have e2 : l2.filter (fun x => !isOn (Arr.put r (s : Int) e) x) = F := by
      rw [← h4]
      refine List.filter_congr fun x hx => ?_
      rw [hon, if_neg (fun e => k3 x hx e.symm)]
    rw [e1, e2, hon]
    simp
/-- Joiners on these slots. -/
def joinS (since : Int) : List Int → List Nat → Int → Roster → Roster × List Seat
  | w :: ws, s :: ss, b, r => ((joinS since ws ss (b + 1) (Arr.put r (s : Int) ⟨w, b, since⟩)).1, ⟨w, (s : Int)⟩ :: (joinS since ws ss (b + 1) (Arr.put r (s : Int) ⟨w, b, since⟩)).2)
  | _, _, _, r => (r, [])
theorem joinS_eq (since : Int) : ∀ (ws : List Int) (b : Int) (r : Roster), ws.length ≤ (freeR r).length → 1 ≤ b → joinS since ws ((freeR r).take ws.length) b r = joinGo since ws b r
  | [], _, _, _, _ => by simp [joinS, joinGo]
  | w :: ws, b, r, hl, hb => by
    cases hF : freeR r with
    | nil => rw [hF] at hl; simp at hl
    | cons s F =>
      obtain ⟨h1, h2, h3⟩ := freeR_cons hF
      have h3 := h3 ⟨w, b, since⟩ (by show b ≠ 0; omega)
      rw [hF] at hl
      simp only [List.length_cons] at hl
      simp only [List.length_cons, List.take_succ_cons, joinS, joinGo, h2]
      have ih := joinS_eq since ws (b + 1) (Arr.put r (s : Int) ⟨w, b, since⟩) (by rw [h3]; omega) (by omega)
      rw [h3] at ih
      rw [ih]
abbrev JA := Roster × List Seat × List Int
def joinStep {Z : Type} (since base : Int) (a : JA) (x : Int) : JA ⊕ Z :=
  .inl (Arr.put a.1 x ⟨a.2.2.headD 0, base + (a.2.1.length : Int), since⟩, a.2.1 ++ [⟨a.2.2.headD 0, x⟩], a.2.2.tail)
theorem joinS_fold {Z : Type} (since base : Int) (fin : JA → Z) : ∀ (ws : List Int) (ss : List Nat) (acc : List Seat) (r : Roster), ws.length = ss.length →
    foldE (joinStep since base) fin (ss.map fun (i : Nat) => (i : Int)) (r, acc, ws) = fin ((joinS since ws ss (base + acc.length) r).1, acc ++ (joinS since ws ss (base + acc.length) r).2, [])
  | [], [], acc, r, _ => by simp [foldE, joinS]
  | [], _ :: _, _, _, h => by simp at h
  | _ :: _, [], _, _, h => by simp at h
  | w :: ws, s :: ss, acc, r, h => by
    simp only [List.map_cons, foldE, joinStep, joinS, List.headD_cons, List.tail_cons]
    have := joinS_fold since base fin ws ss (acc ++ [⟨w, (s : Int)⟩]) (Arr.put r (s : Int) ⟨w, base + acc.length, since⟩) (by simpa using h)
    rw [show foldE (joinStep since base) fin (ss.map fun (i : Nat) => (i : Int)) (Arr.put r (s : Int) ⟨w, base + acc.length, since⟩, acc ++ [⟨w, (s : Int)⟩], ws) = _ from this]
    simp [Int.add_assoc]
section
variable {r : Roster} {b : Batch} {since base : Int}
theorem rmove_loop1 (hc : canLeave r b.Leaves) (hl : b.Leaves.length ≤ 256) :
    lfp g_roster_Move_r1 ((since, base, (), (), (), [], (), b.Leaves, (b.Leaves.length : Int), 0, ()), (r, b, zeroR, ()), ()) = some ((since, base, (), (), (), (leaveGo b.Leaves r).2, (), ()), ((leaveGo b.Leaves r).1, b, zeroR, ()), ()) := by
  have h := lfp_list (f := g_roster_Move_r1) b.Leaves (fun i (a : List Co.Seat × Roster) => ((since, base, (), (), (), a.1, (), b.Leaves, (b.Leaves.length : Int), (i : Int), ()), (a.2, b, zeroR, ()), ()))
    (fun a w => Sum.inl (a.1 ++ [⟨w, findR a.2 w⟩], Arr.put a.2 (findR a.2 w) zeroE)) (fun i todo a => canLeave a.2 todo ∧ a.1.length = i) (fun a => ((since, base, (), (), (), a.1, (), ()), (a.2, b, zeroR, ()), ()))
    (fun i x rest a _ hi hx ⟨ha, hal⟩ => by
      obtain ⟨s, hs, he, hon, hw, hn⟩ := canLeave_next ha
      refine ⟨fun a' ha' => ?_, ?_⟩
      · simp only [Sum.inl.injEq] at ha'
        subst ha'
        simp only [he]
        exact ⟨hn, by simp [hal]⟩
      · have h1 : (i : Int) < (b.Leaves.length : Int) := by omega
        have h2 : (a.1.length + 1) * 16 ≤ 140737488355328 := by omega
        have h3 : (s : Int) < 64 := by omega
        simp only [g_roster_Move_r1, h1, hx, he, h2, h3, decide_true, cond_true, Int.natCast_nonneg, Bool.and_self, wrap1' hi (by omega)]
        rfl)
    (fun a _ => by simp [g_roster_Move_r1]) b.Leaves 0 ([], r) rfl (by omega) ⟨hc, rfl⟩
  rw [leave_fold] at h
  simpa using h
theorem rmove_loop2 {left : List Co.Seat} {z : Roster} (hr : b.Joins.length ≤ freeN r) (hb : b.Joins ≠ [] → 1 ≤ base ∧ base ≤ 32768 - b.Joins.length) :
    lfp g_roster_Move_r2 ((since, base, (), (), (), left, [], (takeW (taken r) (b.Joins.length : Int)).1, ((takeW (taken r) (b.Joins.length : Int)).1.length : Int), 0, ()), (r, b, z, ()), ()) = some (((), (), left, (joinGo since b.Joins base r).2, ()), ((joinGo since b.Joins base r).1, z, ()), ()) := by
  have hlen : b.Joins.length ≤ 64 := Nat.le_trans hr (freeN_le r)
  have hcw := cntW_taken r
  have ht : (takeW (taken r) (b.Joins.length : Int)).1 = ((freeR r).take b.Joins.length).map fun (i : Nat) => (i : Int) := by
    unfold takeW
    have h1 : ¬ (b.Joins.length : Int) < 0 := by omega
    have h2 : ¬ 64 - cntW (taken r) < (b.Joins.length : Int) := by omega
    rw [if_neg h1, if_neg h2, freeL_taken, Int.toNat_natCast]
  have hfl : ((freeR r).take b.Joins.length).length = b.Joins.length := by rw [List.length_take, freeR_len]; omega
  rw [ht]
  have hsl : (((freeR r).take b.Joins.length).map fun (i : Nat) => (i : Int)).length = b.Joins.length := by rw [List.length_map, hfl]
  have hmem : ∀ x ∈ ((freeR r).take b.Joins.length).map (fun (i : Nat) => (i : Int)), 0 ≤ x ∧ x < 64 := fun x hx => by
    obtain ⟨i, hi, rfl⟩ := List.mem_map.1 hx
    have := List.mem_of_mem_take hi
    unfold freeR at this
    simp only [List.mem_filter, List.mem_range] at this
    omega
  have h := lfp_list (f := g_roster_Move_r2) (((freeR r).take b.Joins.length).map fun (i : Nat) => (i : Int)) (fun i (a : JA) => ((since, base, (), (), (), left, a.2.1, ((freeR r).take b.Joins.length).map (fun (i : Nat) => (i : Int)), ((((freeR r).take b.Joins.length).map (fun (i : Nat) => (i : Int))).length : Int), (i : Int), ()), (a.1, b, z, ()), ()))
    (joinStep since base) (fun i todo a => a.2.1.length = i ∧ a.2.2 = b.Joins.drop i ∧ ∀ x ∈ todo, 0 ≤ x ∧ x < 64) (fun a => (((), (), left, a.2.1, ()), (a.1, z, ()), ()))
    (fun i x rest a hd hi hx ⟨ha, hal, hm⟩ => by
      have hij : i < b.Joins.length := by rw [hsl] at hi; exact hi
      obtain ⟨x0, x1⟩ := hm x (List.mem_cons_self ..)
      have hdr := List.drop_eq_getElem_cons hij
      have hh : a.2.2.headD 0 = lat b.Joins (i : Int) := by rw [hal, hdr, lat_nat _ _ hij]; rfl
      refine ⟨fun a' ha' => ?_, ?_⟩
      · simp only [joinStep, Sum.inl.injEq] at ha'
        subst ha'
        refine ⟨by simp [ha], ?_, fun y hy => hm y (List.mem_cons_of_mem _ hy)⟩
        show a.2.2.tail = _
        rw [hal, List.tail_drop]
      · have h1 : (i : Int) < (b.Joins.length : Int) := by omega
        have h2i : (i + 1) * 16 ≤ 140737488355328 := by omega
        have hb' := hb (fun e => by rw [e] at hij; simp at hij)
        have hw : IntKind.i64.wrap (base + (i : Int)) = base + (i : Int) := i64_in _ (by omega)
        simp only [g_roster_Move_r2, hsl, h1, hx, x0, x1, decide_true, cond_true, Int.natCast_nonneg, Bool.and_self, h2i, hw, ha, joinStep, hh, wrap1' hij (by omega)]
        rfl)
    (fun a _ => by simp [g_roster_Move_r2]) (((freeR r).take b.Joins.length).map fun (i : Nat) => (i : Int)) 0 (r, [], b.Joins) rfl (by omega) ⟨rfl, rfl, hmem⟩
  rw [joinS_fold since base _ b.Joins _ [] r hfl.symm] at h
  by_cases hne : b.Joins = []
  · rw [hne] at h ⊢
    simpa [joinS, joinGo] using h
  · have hb' := hb hne
    have hq := joinS_eq since b.Joins base r (by rw [freeR_len]; exact hr) hb'.1
    simp only [List.length_nil, Int.natCast_zero, Int.add_zero, List.nil_append] at h
    rw [hq] at h
    exact h
end
theorem eq_roster_Move : Eqs c_roster_Move g_roster_Move := Eqs.tot fun (r, b, since, base, _) hf => by
  change Int at since base
  change Batch at b
  have zr : (Vector.replicate 64 (St.zero St.entry) : Roster) = zeroR := rfl
  show g_roster_Move (r, b, since, base, ()) = some ((move r b since base).r, (move r b since base).left, (move r b since base).joined, (move r b since base).e, ())
  simp only [g_roster_Move, zr]
  by_cases h0 : fits r b = 0
  case neg =>
    have : move r b since base = ⟨zeroR, [], [], fits r b⟩ := by simp [move, h0]
    simp only [h0, this, decide_false, Bool.not_false, cond_true]
  obtain ⟨hroom, hJ, hL⟩ := move_room h0
  have hcl := canLeave_of (fits_ok h0).2.1
  by_cases h1 : since < 1
  · have g : ¬ 1 ≤ since := by omega
    have : move r b since base = ⟨zeroR, [], [], 19⟩ := by simp [move, h0, g]
    simp only [h0, h1, this, decide_true, Bool.not_true, cond_true, cond_false]
  by_cases h2 : 200 < since
  · have g : ¬ since ≤ 200 := by omega
    have : move r b since base = ⟨zeroR, [], [], 19⟩ := by simp [move, h0, g]
    simp only [h0, h1, h2, this, decide_true, decide_false, Bool.not_true, cond_true, cond_false]
  have g1 : 1 ≤ since := by omega
  have g2 : since ≤ 200 := by omega
  have g3 : (b.Joins.length : Int) ≤ 64 := by omega
  simp only [h0, h1, h2, g3, Int.natCast_nonneg, Bool.and_self, decide_true, decide_false, Bool.not_true, cond_true, cond_false, Option.bind_some]
  have hm : move r b since base = bif namesFree r base (b.Joins.length : Int) then moveGo r b since base else ⟨zeroR, [], [], 3⟩ := by
    unfold move
    simp only [h0, g1, g2, decide_true, cond_true, Bool.and_self]
  rw [hm]
  cases hn : namesFree r base (b.Joins.length : Int) with
  | false => rfl
  | true =>
    simp only [Bool.not_true, cond_true, cond_false]
    rw [rmove_loop1 hcl (by omega)]
    simp only [Option.bind_some]
    rw [rmove_loop2 hroom fun hne => by
      unfold namesFree at hn
      have hl : ¬ (b.Joins.length : Int) = 0 := fun e => hne (List.length_eq_zero_iff.1 (by omega))
      simp only [hl, decide_false, Bool.false_or, Bool.and_eq_true, decide_eq_true_eq] at hn
      exact hn.1]
    rfl
end Go.Co.N
end

section
namespace Go.Co.N
open Go Go.Co

theorem replaced_small (l : List Co.Seat) : 0 ≤ replaced l ∧ replaced l < 2097152 := by
  unfold replaced
  have := word_lt (fun v => l.any fun s => below v (leaf s.Slot)) 21
  have h2 : (2 : Nat) ^ 21 = 2097152 := by decide
  omega
theorem nextT_full {t : Tree} {b : Batch} (hg : goodTree t = true) (he : t.Epoch ≠ 200) (hfi : fits t.Roster b = 0)
    (hf : 32768 - cntTo (replaced (goneOf t.Roster b.Leaves)) 21 - (b.Joins.length : Int) < t.Fresh) : nextT t b = ⟨zeroT, [], [], 3⟩ := by
  obtain ⟨e0, e1, f0, f1, hk, _, hks, _⟩ := goodTree_iff.1 hg
  have hm := (replaced_small (goneOf t.Roster b.Leaves)).2
  have hc := cntTo_le (replaced (goneOf t.Roster b.Leaves)) 21
  by_cases ht : (stepTurn t b).2.2 = 0
  · have hfr := turn_fresh ht
    obtain ⟨_, _, hfree, _, _⟩ := turn_ok ht
    have hb : (stepTurn t b).2.1 = t.Fresh + cntTo (replaced (goneOf t.Roster b.Leaves)) 21 := hfr
    have hle : t.Fresh + cntTo (replaced (goneOf t.Roster b.Leaves)) 21 ≤ 32768 := by
      rcases free_cnt hfree with h0 | ⟨_, h0, _⟩ <;> omega
    have hj : ¬ (b.Joins.length : Int) = 0 := by omega
    have hlt : ¬ (t.Fresh + cntTo (replaced (goneOf t.Roster b.Leaves)) 21) ≤ 32768 - (b.Joins.length : Int) := by omega
    have hn : namesFree t.Roster (stepTurn t b).2.1 (b.Joins.length : Int) = false := by
      rw [hb]
      unfold namesFree
      rw [decide_eq_false hj, decide_eq_false hlt]
      simp
    have s1 : 1 ≤ t.Epoch + 1 := by omega
    have s2 : t.Epoch + 1 ≤ 200 := by omega
    have hmv : stepMove t b = ⟨zeroR, [], [], 3⟩ := by
      unfold stepMove move
      rw [hn]
      simp [hfi, s1, s2]
    simp [nextT, hg, he, hfi, ht, hmv]
  · have he3 : (stepTurn t b).2.2 = 3 := by
      unfold stepTurn turn at ht ⊢
      have hstp : allN 21 (fun v => inB (replaced (goneOf t.Roster b.Leaves)) v || decide (stp t.Keys v < 255)) = true := allN_iff.2 fun v hv => by
        have := (hks v hv).2
        have : stp t.Keys v < 255 := by omega
        simp [this]
      rw [hstp] at ht ⊢
      simp only [hk, hm, decide_true, cond_true] at ht ⊢
      cases hfr : free t.Keys t.Fresh (cntTo (replaced (goneOf t.Roster b.Leaves)) 21) with
      | true => rw [hfr] at ht; exact absurd rfl ht
      | false => rfl
    simp [nextT, hg, he, hfi, he3]
theorem eq_plan_step : Eqs c_plan_step g_plan_step := Eqs.tot fun (t, b, _) _ => by
  change Tree at t
  change Batch at b
  have zt : (Tree.mk 0 0 (Vector.replicate 21 (St.zero St.key)) (Vector.replicate 64 (St.zero St.entry))) = zeroT := rfl
  show g_plan_step (t, b, ()) = some ((nextT t b).t, ⟨(nextT t b).t.Epoch, (nextT t b).left, (nextT t b).joined, []⟩, (nextT t b).e, ())
  simp only [g_plan_step, zt]
  by_cases hg : goodTree t = true
  case neg =>
    have hc : ¬ chkT t = 0 := fun e => hg (chkT_0.1 e)
    have h31 : chkT t = 31 := by simp [chkT, hg]
    have : nextT t b = ⟨zeroT, [], [], 31⟩ := by simp [nextT, hg]
    simp only [this, h31]; rfl
  have hc : chkT t = 0 := chkT_0.2 hg
  by_cases he : t.Epoch = 200
  · have : nextT t b = ⟨zeroT, [], [], 19⟩ := by simp [nextT, hg, he]
    simp only [hc, he, this, decide_true, Bool.not_true, cond_true, cond_false]; rfl
  by_cases hfi : fits t.Roster b = 0
  case neg =>
    have : nextT t b = ⟨zeroT, [], [], fits t.Roster b⟩ := by simp [nextT, hg, he, hfi]
    simp only [hc, he, hfi, this, decide_true, decide_false, Bool.not_true, Bool.not_false, cond_true, cond_false]; rfl
  obtain ⟨hroom, hJ, hL⟩ := move_room hfi
  obtain ⟨e0, e1, f0, f1, hk, _, hks, _⟩ := goodTree_iff.1 hg
  have hm := replaced_small (goneOf t.Roster b.Leaves)
  have hcn := cntTo_le (replaced (goneOf t.Roster b.Leaves)) 21
  have h32 : cntTo (replaced (goneOf t.Roster b.Leaves)) 32 = cntTo (replaced (goneOf t.Roster b.Leaves)) 21 := cntTo_small hm.1 (k := 21) (by omega) 11
  simp only [hc, he, hfi, hL, decide_true, decide_false, Bool.not_true, cond_true, cond_false, Option.bind_some, h32]
  rw [i64_in (32768 - cntTo (replaced (goneOf t.Roster b.Leaves)) 21) (by omega), i64_in (32768 - cntTo (replaced (goneOf t.Roster b.Leaves)) 21 - (b.Joins.length : Int)) (by omega), i64_in (t.Epoch + 1) (by omega)]
  by_cases hfull : 32768 - cntTo (replaced (goneOf t.Roster b.Leaves)) 21 - (b.Joins.length : Int) < t.Fresh
  · rw [nextT_full hg he hfi hfull]
    simp only [hfull, decide_true, cond_true]; rfl
  simp only [hfull, decide_false, cond_false]
  have hst : turn t.Keys (replaced (goneOf t.Roster b.Leaves)) t.Fresh = stepTurn t b := rfl
  simp only [hst]
  by_cases ht : (stepTurn t b).2.2 = 0
  case neg =>
    have : nextT t b = ⟨zeroT, [], [], (stepTurn t b).2.2⟩ := by simp [nextT, hg, he, hfi, ht]
    simp only [ht, this, decide_false, Bool.not_false, cond_true]; rfl
  have hmv : move t.Roster b (t.Epoch + 1) (stepTurn t b).2.1 = stepMove t b := rfl
  simp only [ht, hmv, decide_true, Bool.not_true, cond_false]
  by_cases hme : (stepMove t b).e = 0
  case neg =>
    have : nextT t b = ⟨zeroT, [], [], (stepMove t b).e⟩ := by simp [nextT, hg, he, hfi, ht, hme]
    simp only [hme, this, decide_false, Bool.not_false, cond_true]; rfl
  have hfr : (stepTurn t b).2.1 = t.Fresh + cntTo (replaced (goneOf t.Roster b.Leaves)) 21 := turn_fresh ht
  have hjl : (stepMove t b).joined.length = b.Joins.length := by
    unfold stepMove
    rw [(move_joined hme).1, moveGo]
    exact joinGo_len _ _ _ _
  have : nextT t b = ⟨⟨t.Epoch + 1, (stepTurn t b).2.1 + (stepMove t b).joined.length, (stepTurn t b).1, (stepMove t b).r⟩, (stepMove t b).left, (stepMove t b).joined, 0⟩ := by simp [nextT, hg, he, hfi, ht, hme]
  rw [this]
  simp only [hme, decide_true, Bool.not_true, cond_false]
  rw [i64_in _ (by rw [hfr, hjl]; omega)]
end Go.Co.N
end

section
namespace Go.Co.N
open Go Go.Co

theorem belowR_leaf {r : Roster} {v : Int} (hb : belowR r v = true) (hv : 21 ≤ v) (hv2 : v < 85) : ∃ s : Nat, s < 64 ∧ v = leaf s ∧ isOn r s = true := by
  obtain ⟨s, hs, hb⟩ := anyN_iff.1 hb
  simp only [Bool.and_eq_true] at hb
  obtain ⟨k, hk⟩ := Int.eq_ofNat_of_zero_le (show 0 ≤ v - 21 by omega)
  have hvk : v = ((21 + k : Nat) : Int) := by omega
  have := allN_iff.1 (allN_iff.1 below_leaf k (by omega)) s hs
  simp only [decide_eq_true_eq] at this
  rw [hvk, this] at hb
  simp only [decide_eq_true_eq] at hb
  obtain ⟨h1, rfl⟩ := hb
  exact ⟨k, hs, by rw [leaf_in hs]; omega, h1⟩
theorem child_nat {v i : Nat} (hv : v < 21) (hi : i < 4) : child v i = ((4 * v + 1 + i : Nat) : Int) := by unfold child; rw [if_pos ⟨by omega, by omega, by omega, by omega⟩]; omega
theorem good_childT {t : Tree} (hg : goodTree t = true) {v : Nat} {i : Nat} (hv : v < 21) (hi : i < 4) (hb : belowR t.Roster (child v i) = true) : good (keyN t (child v i)) = true := by
  have hc := child_nat hv hi
  by_cases hlt : 4 * v + 1 + i < 21
  · rw [hc]; exact good_inner hg hlt
  · obtain ⟨s, hs, he, hon⟩ := belowR_leaf hb (by omega) (by omega)
    rw [he]; exact good_leafK hg hs hon
theorem nodeK_eq (t : Tree) {v : Int} (h0 : 0 ≤ v) (h1 : v ≤ 84) : nodeK t v = keyN t v := by
  obtain ⟨n, rfl⟩ := Int.eq_ofNat_of_zero_le h0
  unfold nodeK slot
  by_cases h : n < 21
  · have : ¬ (21 ≤ (n : Int) ∧ (n : Int) < 85) := by omega
    rw [if_neg this, keyN_inner t h]; rfl
  · have : 21 ≤ (n : Int) ∧ (n : Int) < 85 := by omega
    have h2 : 0 ≤ (n : Int) - 21 := by omega
    rw [if_pos this, decide_eq_true h2]
    have he : (n : Int) = leaf ((n - 21 : Nat) : Int) := by rw [leaf_in (by omega)]; omega
    have hs : (n : Int) - 21 = ((n - 21 : Nat) : Int) := by omega
    rw [hs, cond_true, he, keyN_leaf t (by omega)]
theorem maskR_below (r : Roster) (v : Int) : (!decide (bw .and .u64 (mask v) (taken r) = 0)) = belowR r v := by
  unfold taken mask belowR
  rw [word_and]
  refine bool_eq ?_
  simp only [Bool.not_eq_true', decide_eq_false_iff_not, anyN_iff]
  constructor
  · intro h
    refine Classical.byContradiction fun hn => h ?_
    have : word (fun i => below v (leaf i) && isOn r i) 64 = 0 := by
      have : word (fun i => below v (leaf i) && isOn r i) 64 = word (fun _ => false) 64 := word_congr 64 fun i hi => by
        cases hq : (below v (leaf i) && isOn r i) with
        | false => rfl
        | true => exact absurd ⟨i, hi, by rw [Bool.and_comm]; exact hq⟩ hn
      rw [this]; exact (by decide : word (fun _ => false) 64 = 0)
    rw [this]; rfl
  · rintro ⟨i, hi, hb⟩ h
    have hz : word (fun i => below v (leaf i) && isOn r i) 64 = 0 := by omega
    have := word_bit (fun i => below v (leaf i) && isOn r i) 64 i
    rw [hz] at this
    rw [Bool.and_comm] at hb
    simp [hi, hb] at this
theorem seal_item {t : Tree} {v fr : Int} (h1 : good (keyN t fr) = true) (h2 : good (keyN t v) = true) : sealK (keyN t fr) (keyN t v) = ((itemOf t v fr).Box, 0) := by
  unfold sealK itemOf
  rw [h1, h2]; rfl
section
variable {t : Tree} {m : Rekey} (hg : goodTree t = true)
include hg
theorem pitems_loop2 {M : Int} (h0 : 0 ≤ M) (h1 : M ≤ 4294967295) {acc : List Co.Item} {v : Nat} (hv : v < 21) (h : acc.length ≤ 1000) :
    lfp g_plan_items_r2 (((), (), (), taken t.Roster, M, (v : Int), 0, ()), (t, m, acc, ()), ()) = some (((), (), (), taken t.Roster, M, (v : Int), ()), (t, m, acc ++ nodeItems t M v, ()), ()) := by
  have hb : decide (bw .and .u32 (shrI .u32 M (IntKind.u64.wrap (v : Int))) 1 = 1) = inB M v := by
    rw [Go.IntWalk.u64_in _ (by omega)]; exact bit_in M v h0 h1 (by omega) (by omega)
  unfold nodeItems
  cases hin : inB M v with
  | false => rw [hin] at hb; exact lfp_inr (by simp only [g_plan_items_r2, hb, cond_false, List.append_nil])
  | true =>
    rw [hin] at hb
    rw [lfp_run' (fun i => (((), (), (), taken t.Roster, M, (v : Int), (i : Int), ()), (t, m, acc ++ kidItems t v i, ()), ())) 4 (by simp [kidItems]) fun i hi => by
      have h1 : (i : Int) < 4 := by omega
      have hl := kidItems_len t v i
      have h2 : ((acc ++ kidItems t v i).length + 1) * 48 ≤ 140737488355328 := by rw [List.length_append]; omega
      have hc := child_nat hv hi
      have b1 : betw (child v i) 0 84 = true := betw_iff.2 (by omega)
      have b2 : betw (v : Int) 0 84 = true := betw_iff.2 (by omega)
      simp only [g_plan_items_r2, hb, h1, decide_true, cond_true, wrap1 i (by omega), kidItems_succ, maskR_below]
      cases hbr : belowR t.Roster (child v i) with
      | false => simp
      | true =>
        have hs := seal_item (good_childT hg hv hi hbr) (good_inner hg hv)
        simp only [cond_true, b1, b2, Option.bind_some, nodeK_eq t (show 0 ≤ child v i by omega) (show child v i ≤ 84 by omega), nodeK_eq t (show 0 ≤ (v : Int) by omega) (show (v : Int) ≤ 84 by omega), hs, decide_true, h2]
        rw [← List.append_assoc]
        rfl]
    exact lfp_inr (by simp [g_plan_items_r2, hb, kidItems])
theorem pitems_loop1 {M : Int} (h0 : 0 ≤ M) (h1 : M ≤ 4294967295) : ∀ (n : Nat) (acc : List Co.Item), n ≤ 21 → acc.length ≤ 4 * (21 - n) →
    lfp g_plan_items_r1 (((), (), (), taken t.Roster, M, (n : Int) - 1, ()), (t, m, acc, ()), ()) = some (((), (), (), M, ()), (t, m, acc ++ itemsUp t M n, ()), ())
  | 0, acc, _, _ => by
    simp only [itemsUp, List.append_nil]
    exact lfp_inr (by simp [g_plan_items_r1])
  | n + 1, acc, hn, ha => by
    have hl := nodeItems_len t M n
    have e1 : ((n + 1 : Nat) : Int) - 1 = (n : Int) := by omega
    rw [e1, lfp_inl (x' := (((), (), (), taken t.Roster, M, (n : Int) - 1, ()), (t, m, acc ++ nodeItems t M n, ()), ())) (by
      have hw : IntKind.i64.wrap ((n : Int) - 1) = (n : Int) - 1 := i64_in _ (by omega)
      simp only [g_plan_items_r1, Int.natCast_nonneg, decide_true, cond_true, pitems_loop2 hg h0 h1 (m := m) (acc := acc) (v := n) (by omega) (by omega), Option.bind_some, hw])]
    rw [pitems_loop1 h0 h1 n (acc ++ nodeItems t M n) (by omega) (by rw [List.length_append]; omega)]
    simp [itemsUp]
theorem pitems_loop4 {M : Int} (h0 : 0 ≤ M) (h1 : M ≤ 4294967295) {acc : List Co.Item} {s : Co.Seat} {k : Nat} (hk : k < 64) (hs : s.Slot = k) (hon : isOn t.Roster k = true) {j : List Co.Seat} {d e : Int} (h : acc.length ≤ 1000) :
    lfp g_plan_items_r4 (((), (), M, (), j, d, e, pathG s.Slot, 0, ()), (t, acc, s, ()), ()) = some (((), (), M, j, d, e, ()), (t, acc ++ joinItems t M s.Slot, ()), ()) := by
  have hlf := good_leafK hg hk hon
  have b1 : betw (leaf s.Slot) 0 84 = true := betw_iff.2 (by rw [hs, leaf_in hk]; omega)
  have hl0 : 0 ≤ leaf s.Slot ∧ leaf s.Slot ≤ 84 := by rw [hs, leaf_in hk]; omega
  rw [lfp_run' (fun i => (((), (), M, (), j, d, e, pathG s.Slot, (i : Int), ()), (t, acc ++ legItems t M s.Slot i, s, ()), ())) 3 (by simp [legItems]) fun i hi => by
    have g1 : (i : Int) < 3 := by omega
    have hl := legItems_len t M s.Slot i
    have h2 : ((acc ++ legItems t M s.Slot i).length + 1) * 48 ≤ 140737488355328 := by rw [List.length_append]; omega
    obtain ⟨v, hv, hv2, _⟩ := path_at hk i hi
    have hp : Arr.get (pathG s.Slot) (i : Int) = (v : Int) := by rw [hs, pathG_at hk i hi, hv]
    have b2 : betw (v : Int) 0 84 = true := betw_iff.2 (by omega)
    have hb : decide (bw .and .u32 (shrI .u32 M (IntKind.u64.wrap (v : Int))) 1 = 0) = !inB M v := by
      rw [Go.IntWalk.u64_in _ (by omega)]
      have hq := bit_in M v h0 h1 (by omega) (by omega)
      rw [← hq]
      rw [shr_u32 M v (by omega) (by omega)]
      have hle : 0 ≤ M / 2 ^ (v : Int).toNat ∧ M / 2 ^ (v : Int).toNat ≤ 4294967295 := ⟨Int.ediv_nonneg h0 (Int.pow_nonneg (by omega)), Int.le_trans (Int.ediv_le_self _ h0) h1⟩
      rw [bw_and_one _ hle.1 hle.2]
      refine bool_eq ?_
      simp only [decide_eq_true_eq, Bool.not_eq_true', decide_eq_false_iff_not]
      omega
    simp only [g_plan_items_r4, g1, decide_true, cond_true, Int.natCast_nonneg, Bool.and_self, hp, hb, wrap1 i (by omega), legItems_succ]
    cases hin : inB M (v : Int) with
    | true => simp
    | false =>
      have hse := seal_item (t := t) (v := (v : Int)) (fr := leaf s.Slot) (by rw [hs]; exact hlf) (good_inner hg hv2)
      simp only [Bool.not_false, cond_true, b1, b2, Option.bind_some, nodeK_eq t hl0.1 hl0.2, nodeK_eq t (show 0 ≤ (v : Int) by omega) (show (v : Int) ≤ 84 by omega), hse, decide_true, h2]
      rw [← List.append_assoc]
      rfl]
  exact lfp_inr (by simp [g_plan_items_r4, legItems, joinItems])
end
theorem eq_plan_items : Eqs c_plan_items g_plan_items := fun (t, m, _) y hf h => by
  change Tree at t
  change Rekey at m
  obtain ⟨hc, h⟩ := guardK_some h
  rw [← h]
  show g_plan_items (t, m, ()) = some (items t m.Leaves m.Joins, ())
  have hc : calls t m = true := hc
  unfold calls at hc
  simp only [Bool.and_eq_true, decide_eq_true_eq, List.all_eq_true] at hc
  obtain ⟨⟨hg, hj⟩, hon⟩ := hc
  have hm := replaced_small m.Leaves
  simp only [g_plan_items]
  have h1 := pitems_loop1 hg (m := m) hm.1 (by omega) 21 [] (by omega) (by simp)
  rw [show ((21 : Nat) : Int) - 1 = 20 from rfl] at h1
  rw [h1]
  simp only [List.nil_append, Option.bind_some]
  have hu := itemsUp_len t (replaced m.Leaves) 21
  have hloop := lfp_list (f := g_plan_items_r3) m.Joins (fun i (a : List Co.Item) => (((), (), replaced m.Leaves, m.Joins, (m.Joins.length : Int), (i : Int), ()), (t, a, ()), ()))
    (fun a s => Sum.inl (a ++ joinItems t (replaced m.Leaves) s.Slot)) (fun i todo a => a.length ≤ 84 + 3 * i ∧ ∀ s ∈ todo, betw s.Slot 0 63 = true ∧ isOn t.Roster s.Slot.toNat = true) (fun a => (((), ()), (a, ()), ()))
    (fun i x rest a _ hi hx ⟨ha, hon⟩ => by
      refine ⟨fun a' ha' => ?_, ?_⟩
      · simp only [Sum.inl.injEq] at ha'
        subst ha'
        have := legItems_len t (replaced m.Leaves) x.Slot 3
        refine ⟨?_, fun s hs => hon s (List.mem_cons_of_mem _ hs)⟩
        rw [List.length_append, show joinItems t (replaced m.Leaves) x.Slot = legItems t (replaced m.Leaves) x.Slot 3 from rfl]; omega
      · have g1 : (i : Int) < (m.Joins.length : Int) := by omega
        obtain ⟨o1, o2⟩ := hon x (List.mem_cons_self ..)
        have o1 := betw_iff.1 o1
        have hl4 := pitems_loop4 hg (M := replaced m.Leaves) hm.1 (by omega) (acc := a) (s := x) (k := x.Slot.toNat) (by omega) (by omega) o2 (j := m.Joins) (d := (m.Joins.length : Int)) (e := (i : Int)) (by omega)
        simp only [g_plan_items_r3, g1, hx, decide_true, cond_true, Int.natCast_nonneg, Bool.and_self]
        rw [show (bif decide (0 ≤ leaf x.Slot) then pathN x.Slot else zero3) = pathG x.Slot from rfl, hl4]
        simp only [Option.bind_some, wrap1' hi (by omega)])
    (fun a _ => by simp [g_plan_items_r3]) m.Joins 0 (itemsUp t (replaced m.Leaves) 21) rfl (by omega) ⟨by omega, hon⟩
  rw [join_items_fold] at hloop
  rw [show lfp g_plan_items_r3 (((), (), replaced m.Leaves, m.Joins, (m.Joins.length : Int), 0, ()), (t, itemsUp t (replaced m.Leaves) 21, ()), ()) = _ from hloop]
  rfl
theorem calls_next {t : Tree} {b : Batch} (h : (nextT t b).e = 0) (e : Int) (l : List Co.Seat) (i : List Co.Item) : calls (nextT t b).t ⟨e, l, (nextT t b).joined, i⟩ = true := by
  obtain ⟨h1, _, h2, _⟩ := nextT_joined h
  unfold calls
  simp only [Bool.and_eq_true, decide_eq_true_eq, List.all_eq_true]
  refine ⟨⟨nx_good h, by rw [h1]; exact h2⟩, fun s hs => ?_⟩
  obtain ⟨k, hk, he, hon, _⟩ := joined_on h hs
  rw [he]
  exact ⟨betw_iff.2 (by omega), by rw [Int.toNat_natCast]; exact hon⟩
theorem eq_plan_Next : Eqs c_plan_Next g_plan_Next := Eqs.tot fun (t, b, _) _ => by
  change Tree at t
  change Batch at b
  show g_plan_Next (t, b, ()) = some ((nextR t b).1, (nextR t b).2.1, (nextR t b).2.2, ())
  simp only [g_plan_Next]
  by_cases h : (nextT t b).e = 0
  · rw [nextR_is h, calls_next h]
    simp only [h, decide_true, Bool.not_true, cond_true, cond_false, Option.bind_some]
    rfl
  · have hr : nextR t b = (zeroT, St.zero .rekey, (nextT t b).e) := by unfold nextR; rw [decide_eq_false h]; rfl
    simp only [h, decide_false, Bool.not_false, cond_true, hr]; rfl
end Go.Co.N
end

section
namespace Go.Co.N
open Go Go.Co

end Go.Co.N
end

section
namespace Go.Co.N
open Go Go.Co

/-- Each name from lo to hi was seen once, no other. -/
def SpanM (h : List (Int × Int)) (lo hi : Int) : Prop := ∀ x, mget h x = if lo ≤ x ∧ x < hi then some 1 else none
def seeI (h : List (Int × Int)) (x : Int) : List (Int × Int) := mput h x (IntKind.wrap IntKind.i64 (Option.getD (mget h x) 0 + 1))
theorem SpanM.nil (a : Int) : SpanM [] a a := fun x => by
  have : ¬ (a ≤ x ∧ x < a) := by omega
  rw [if_neg this]; rfl
theorem SpanM.see {h : List (Int × Int)} {lo hi x : Int} (hs : SpanM h lo hi) (hx : ¬ (lo ≤ x ∧ x < hi)) (c : Int) : mget (seeI h x) c = if x = c then some 1 else if lo ≤ c ∧ c < hi then some 1 else none := by
  unfold seeI
  rw [mget_mput, hs x, if_neg hx, hs c]
  rfl
theorem SpanM.down {h : List (Int × Int)} {lo hi : Int} (hs : SpanM h lo hi) (hle : lo ≤ hi) : SpanM (seeI h (lo - 1)) (lo - 1) hi := fun c => by
  rw [hs.see (by omega)]
  by_cases h1 : lo - 1 = c
  · rw [if_pos h1, if_pos (by omega)]
  · by_cases h2 : lo ≤ c ∧ c < hi
    · rw [if_neg h1, if_pos h2, if_pos (by omega)]
    · rw [if_neg h1, if_neg h2, if_neg (by omega)]
theorem SpanM.up {h : List (Int × Int)} {lo hi : Int} (hs : SpanM h lo hi) (hle : lo ≤ hi) : SpanM (seeI h hi) lo (hi + 1) := fun c => by
  rw [hs.see (by omega)]
  by_cases h1 : hi = c
  · rw [if_pos h1, if_pos (by omega)]
  · by_cases h2 : lo ≤ c ∧ c < hi
    · rw [if_neg h1, if_pos h2, if_pos (by omega)]
    · rw [if_neg h1, if_neg h2, if_neg (by omega)]
end Go.Co.N
end

section
namespace Go.Co.N
open Go Go.Co

end Go.Co.N
end

section
set_option maxRecDepth 100000
noncomputable section
namespace Go.Co.N
open Go Go.Co
end Go.Co.N
end
end

section
namespace Go.Co.N
open Go Go.Co

section
variable {t : Tree} {b : Batch} (h : (nextT t b).e = 0)
include h
end
end Go.Co.N
end

section
namespace Go.Co.N
open Go Go.Co

end Go.Co.N
end

section
namespace Go.Co.N
open Go Go.Co

section
variable {t : Tree} {b : Batch} (h : (nextT t b).e = 0)
include h
end

/-! ### Derived keys -/
abbrev Names := List (Int × Int)
/-- Of each name the least step. -/
def addD (h : Names) (k : Key) : Names := bif !(mget h k.Base).isSome then mput h k.Base k.Step else bif decide (k.Step < (mget h k.Base).getD 0) then mput h k.Base k.Step else h
/-- Each name that is known is one of these keys. -/
def OfKeys (P : Key → Prop) (h : Names) : Prop := ∀ n s, mget h n = some s → P ⟨n, s⟩
theorem OfKeys.nil (P : Key → Prop) : OfKeys P [] := fun n s h => by simp [mget] at h
theorem OfKeys.put {P : Key → Prop} {h : Names} (hh : OfKeys P h) {k : Key} (hk : P k) : OfKeys P (mput h k.Base k.Step) := fun n s hs => by
  rw [mget_mput] at hs
  by_cases he : k.Base = n
  · rw [if_pos he] at hs
    cases hs; subst he; exact hk
  · rw [if_neg he] at hs; exact hh n s hs
theorem OfKeys.add {P : Key → Prop} {h : Names} (hh : OfKeys P h) {k : Key} (hk : P k) : OfKeys P (addD h k) := by
  unfold addD
  cases (mget h k.Base).isSome with
  | false => exact hh.put hk
  | true => cases decide (k.Step < (mget h k.Base).getD 0) with
    | true => exact hh.put hk
    | false => exact hh
end Go.Co.N
end

section
namespace Go.Co.N
open Go Go.Co

/-! ### The loops -/
/-! ### Who left -/
/-! ### Who joins -/
end Go.Co.N
end

section
namespace Go.Co.N
open Go Go.Co

end Go.Co.N
end

section
set_option maxRecDepth 100000
noncomputable section
namespace Go.Co.N
open Go Go.Co
end Go.Co.N
end
end

section
namespace Go.Co.N
open Go Go.Co

/-! ### Seats' nodes -/
/-! ### Refusals -/
def whoOf (x : Int) : Int := IntKind.wrap IntKind.i64 (Int.tmod (IntKind.wrap IntKind.u64 x) 256)
theorem whoOf_in (x : Int) : 0 ≤ whoOf x ∧ whoOf x < 256 := tmod_wrap x 256 (by omega) (by omega)
/-- The people that are taken of a list. -/
structure Picked (r : Roster) (on : Bool) (base l : List Int) (h : Names) : Prop where
  nodup : l.Nodup
  mem : ∀ w ∈ l, 0 ≤ w ∧ w < 256 ∧ w ∉ base ∧ (0 ≤ findR r w ↔ on = true)
  seen : ∀ w, (mget h w).getD 0 = 0 ↔ w ∉ base ∧ w ∉ l
def pickS (r : Roster) (on : Bool) (a : List Int × Names) (x : Int) : List Int × Names :=
  bif decide ((mget a.2 (whoOf x)).getD 0 = 0) && (bif on then decide (0 ≤ findR r (whoOf x)) else decide (findR r (whoOf x) < 0)) then (a.1 ++ [whoOf x], mput a.2 (whoOf x) 1) else a
theorem Picked.step {r : Roster} {on : Bool} {base l : List Int} {h : Names} (hp : Picked r on base l h) (x : Int) : Picked r on base (pickS r on (l, h) x).1 (pickS r on (l, h) x).2 := by
  unfold pickS
  cases hc : (decide ((mget h (whoOf x)).getD 0 = 0) && (bif on then decide (0 ≤ findR r (whoOf x)) else decide (findR r (whoOf x) < 0))) with
  | false => exact hp
  | true =>
    simp only [Bool.and_eq_true, decide_eq_true_eq] at hc
    obtain ⟨h1, h2⟩ := hc
    obtain ⟨h3, h4⟩ := (hp.seen _).1 h1
    have hw := whoOf_in x
    refine ⟨?_, fun w hw' => ?_, fun w => ?_⟩
    · show (l ++ [whoOf x]).Nodup
      rw [List.nodup_append]
      exact ⟨hp.nodup, by simp, fun a ha b hb => by simp at hb; subst hb; rintro rfl; exact h4 ha⟩
    · have hw' : w ∈ l ++ [whoOf x] := hw'
      rcases List.mem_append.1 hw' with hw' | hw'
      · exact hp.mem w hw'
      · simp at hw'; subst hw'
        refine ⟨hw.1, hw.2, h3, ?_⟩
        cases on with
        | true => simpa using h2
        | false =>
          have h2 : findR r (whoOf x) < 0 := by simpa using h2
          constructor
          · intro; omega
          · intro h; cases h
    · show (mget (mput h (whoOf x) 1) w).getD 0 = 0 ↔ w ∉ base ∧ w ∉ l ++ [whoOf x]
      rw [mget_mput]
      by_cases he : whoOf x = w
      · rw [if_pos he]
        subst he
        simp
      · rw [if_neg he, hp.seen]
        simp only [List.mem_append, List.mem_singleton, not_or]
        exact ⟨fun ⟨a, b⟩ => ⟨a, b, fun e => he e.symm⟩, fun ⟨a, b, _⟩ => ⟨a, b⟩⟩
theorem Picked.len {r : Roster} {on : Bool} {base l : List Int} {h : Names} (hp : Picked r on base l h) : l.length ≤ 256 := nodup_le 256 l hp.nodup fun x hx => by
  obtain ⟨h1, h2, _⟩ := hp.mem x hx
  exact ⟨h1, h2⟩
theorem Picked.all {r : Roster} {on : Bool} {base : List Int} : ∀ (xs : List Int) (a : List Int × Names), Picked r on base a.1 a.2 → Picked r on base (xs.foldl (pickS r on) a).1 (xs.foldl (pickS r on) a).2
  | [], _, hp => hp
  | x :: xs, (_, _), hp => Picked.all xs _ (hp.step x)
end Go.Co.N
end

section
namespace Go.Co.N
open Go Go.Co

/-! ### Bits -/
/-- A number's bits, the highest first. -/
def bitsN (w v : Nat) : List Bool := (List.range w).map fun i => v.testBit (w - 1 - i)
def valB (l : List Bool) : Nat := l.foldl (fun a b => 2 * a + b.toNat) 0
/-- Up to eight bits as a byte, noughts behind them. -/
def byteB (c : List Bool) : Nat := valB c * 2 ^ (8 - c.length)
def packB (bs : List Bool) : List Int := (List.range ((bs.length + 7) / 8)).map fun i => (byteB ((bs.drop (8 * i)).take 8) : Int)
def bitsT (t : ByteArray) : List Bool := t.data.toList.flatMap fun b => bitsN 8 b.toNat
def packT (bs : List Bool) : ByteArray := txtOf (packB bs)
def fitW (v w : Int) : Bool := decide (1 ≤ w) && decide (w ≤ 64) && (decide (w = 64) || decide (v < 2 ^ w.toNat))
abbrev c_bits_fits : Con := ⟨[.int .u64, .i], [.bool], fun x => some (fitW x.1 x.2.1, ())⟩
/-- Bits as bytes that are nought or one. -/
def ones (l : List Bool) : List Int := l.map fun b => bif b then 1 else 0
/-! ### Records -/
abbrev c_record_between : Con := ⟨[.i, .i, .i], [.bool], fun x => some (betw x.1 x.2.1 x.2.2.1, ())⟩
def goodRec (r : Record) : Bool := betw r.Epoch 1 200 && betw r.Fresh 22 32768 && decide (r.Leaves.length ≤ 64) && decide (r.Joins.length ≤ 64) && r.Leaves.all (fun w => betw w 0 255) && r.Joins.all fun s => betw s.Who 0 255 && betw s.Slot 0 63
abbrev c_record_right : Con := ⟨[.st .record], [.bool], fun x => some (goodRec x.1, ())⟩
def recBits (r : Record) : List Bool := bitsN 8 r.Epoch.toNat ++ (bitsN 16 r.Fresh.toNat ++ (bitsN 7 r.Leaves.length ++ (r.Leaves.flatMap (fun w => bitsN 8 w.toNat) ++ (bitsN 7 r.Joins.length ++ r.Joins.flatMap fun s => bitsN 8 s.Who.toNat ++ bitsN 6 s.Slot.toNat))))
def writeR (r : Record) : ByteArray × Int := bif goodRec r then (packT (recBits r), 0) else (bytesOf [], 12)
abbrev c_record_Write : Con := ⟨[.st .record], [.str, .i], fun x => some ((writeR x.1).1, (writeR x.1).2, ())⟩
/-- What is read of the bits behind a place: the number, the place behind it, whether they were too few. -/
def takeB (B : List Bool) (p w : Nat) : Nat × Nat × Bool := if p + w ≤ B.length then (valB ((B.drop p).take w), p + w, false) else (0, p, true)
structure RdS where
  p : Nat
  short : Bool
def RdS.step (B : List Bool) (s : RdS) (w : Nat) : RdS := ⟨(takeB B s.p w).2.1, s.short || (takeB B s.p w).2.2⟩
def rdLeaves (B : List Bool) : Nat → RdS → List Int × RdS
  | 0, s => ([], s)
  | n + 1, s => (((takeB B s.p 8).1 : Int) :: (rdLeaves B n (s.step B 8)).1, (rdLeaves B n (s.step B 8)).2)
def rdJoins (B : List Bool) : Nat → RdS → List Seat × RdS
  | 0, s => ([], s)
  | n + 1, s => (⟨(takeB B s.p 8).1, (takeB B (s.step B 8).p 6).1⟩ :: (rdJoins B n ((s.step B 8).step B 6)).1, (rdJoins B n ((s.step B 8).step B 6)).2)
/-- The record that bits say, and how the reading ended. -/
def parseR (B : List Bool) : Record × RdS :=
  let s0 : RdS := ⟨0, false⟩
  let s1 := s0.step B 8
  let s2 := s1.step B 16
  let s3 := s2.step B 7
  let l := rdLeaves B (takeB B s2.p 7).1 s3
  let s5 := l.2.step B 7
  let j := rdJoins B (takeB B l.2.p 7).1 s5
  (⟨(takeB B 0 8).1, (takeB B s1.p 16).1, l.1, j.1⟩, j.2)
abbrev zeroRec : Record := ⟨0, 0, [], []⟩
def readR (t : ByteArray) : Record × Int := bif goodRec (parseR (bitsT t)).1 && decide (packT (recBits (parseR (bitsT t)).1) = t) then ((parseR (bitsT t)).1, 0) else (zeroRec, 12)
abbrev c_record_Read : Con := ⟨[.str], [.st .record, .i], fun x => guardK (decide (ByteArray.size x.1 ≤ 140737488355328)) (some ((readR x.1).1, (readR x.1).2, ()))⟩
abbrev c_ref13_Same : Con := ⟨[.st .record, .st .record], [.bool], fun x => some (decide ((x.1 : Record) = x.2.1), ())⟩
abbrev c_slices_Clone : Con := ⟨[.list .i], [.list .i], fun x => some (x.1, ())⟩
def ofR (t : Tree) (b : Batch) : Record × Int := bif decide ((nextT t b).e = 0) then (⟨(nextT t b).t.Epoch, (nextT t b).t.Fresh, b.Leaves, (nextT t b).joined⟩, 0) else (zeroRec, (nextT t b).e)
abbrev c_record_Of : Con := ⟨[.st .tree, .st .batch], [.st .record, .i], fun x => some ((ofR x.1 x.2.1).1, (ofR x.1 x.2.1).2, ())⟩
abbrev c_ref13_Of : Con := ⟨[.st .tree, .st .batch], [.st .record, .i], fun x => some ((ofR x.1 x.2.1).1, (ofR x.1 x.2.1).2, ())⟩
abbrev c_law13_lives : Con := c_True []
end Go.Co.N
end

section
namespace Go.Co.N
open Go Go.Co

theorem len_bitsN (w v : Nat) : (bitsN w v).length = w := by simp [bitsN]
theorem get_bitsN (w v i : Nat) : (bitsN w v)[i]? = if i < w then some (v.testBit (w - 1 - i)) else none := by
  unfold bitsN
  by_cases h : i < w
  · simp [h]
  · simp [h]
theorem bitsN_succ (w v : Nat) : bitsN (w + 1) v = v.testBit w :: bitsN w v := by
  apply List.ext_getElem?
  intro i
  cases i with
  | zero => simp [get_bitsN]
  | succ i =>
    rw [List.getElem?_cons_succ, get_bitsN, get_bitsN]
    by_cases h : i < w
    · simp [h]; congr 1; omega
    · simp [h]
theorem bitsN_zero (v : Nat) : bitsN 0 v = [] := rfl
theorem bitsN_add (a b v : Nat) : bitsN (a + b) v = bitsN a (v >>> b) ++ bitsN b v := by
  induction a with
  | zero => simp [bitsN_zero]
  | succ a ih =>
    rw [show a + 1 + b = (a + b) + 1 by omega, bitsN_succ, ih, bitsN_succ, List.cons_append, Nat.testBit_shiftRight, Nat.add_comm b a]
theorem bitsN_mod (w v : Nat) : bitsN w (v % 2 ^ w) = bitsN w v := by
  apply List.ext_getElem?
  intro i
  rw [get_bitsN, get_bitsN]
  by_cases h : i < w
  · rw [if_pos h, if_pos h, Nat.testBit_mod_two_pow]; simp; omega
  · rw [if_neg h, if_neg h]

theorem valB_append (l k : List Bool) : valB (l ++ k) = valB l * 2 ^ k.length + valB k := by
  induction k using List.rec with
  | nil => simp [valB]
  | cons b k ih =>
    have : ∀ (k : List Bool) (a : Nat), k.foldl (fun a b => 2 * a + b.toNat) a = a * 2 ^ k.length + valB k := by
      intro k
      induction k with
      | nil => intro a; simp [valB]
      | cons c k ih2 =>
        intro a
        simp only [List.foldl_cons, valB]
        rw [ih2, ih2 (2 * 0 + c.toNat)]
        simp only [List.length_cons, Nat.pow_succ]
        grind
    rw [show valB (l ++ b :: k) = (b :: k).foldl (fun a b => 2 * a + b.toNat) (valB l) by simp [valB, List.foldl_append], this]
theorem valB_lt : ∀ l : List Bool, valB l < 2 ^ l.length
  | [] => by simp [valB]
  | b :: l => by
    have h := valB_lt l
    rw [show b :: l = [b] ++ l from rfl, valB_append]
    have e : valB [b] = b.toNat := by simp [valB]
    rw [e, List.length_append, List.length_singleton, Nat.pow_add]
    cases b <;> simp <;> omega
theorem bitsN_valB : ∀ l : List Bool, bitsN l.length (valB l) = l
  | [] => rfl
  | b :: l => by
    have h := bitsN_valB l
    have hl := valB_lt l
    have e : valB (b :: l) = 2 ^ l.length * b.toNat + valB l := by
      rw [show b :: l = [b] ++ l from rfl, valB_append]; simp [valB, Nat.mul_comm]
    rw [List.length_cons, bitsN_succ, ← bitsN_mod, e, Nat.mul_add_mod, Nat.mod_eq_of_lt hl, h]
    congr 1
    cases b
    · simpa using Nat.testBit_lt_two_pow hl
    · have := Nat.testBit_two_pow_mul_add 1 hl l.length
      simpa using this
theorem valB_inj {l k : List Bool} (h : l.length = k.length) (e : valB l = valB k) : l = k := by rw [← bitsN_valB l, ← bitsN_valB k, h, e]
theorem valB_bitsN (w v : Nat) : valB (bitsN w v) = v % 2 ^ w := by
  have h : valB (bitsN w v) < 2 ^ w := by have := valB_lt (bitsN w v); rwa [len_bitsN] at this
  have e := bitsN_valB (bitsN w v)
  rw [len_bitsN] at e
  apply Nat.eq_of_testBit_eq
  intro i
  by_cases hi : i < w
  · have h1 := congrArg (fun l => l[w - 1 - i]?) e
    simp only [get_bitsN] at h1
    rw [if_pos (by omega), if_pos (by omega)] at h1
    rw [Nat.testBit_mod_two_pow]
    simp only [show w - 1 - (w - 1 - i) = i by omega, Option.some.injEq] at h1
    simp [hi, h1]
  · have h2 : v % 2 ^ w < 2 ^ w := Nat.mod_lt _ (Nat.two_pow_pos w)
    have hp : 2 ^ w ≤ 2 ^ i := Nat.pow_le_pow_right (by omega) (by omega)
    rw [Nat.testBit_lt_two_pow (by omega), Nat.testBit_lt_two_pow (by omega)]
end Go.Co.N
end

section
namespace Go.Co.N
open Go Go.Co

theorem byteB_lt {c : List Bool} (h : c.length ≤ 8) : byteB c < 256 := by
  have h1 := valB_lt c
  unfold byteB
  calc valB c * 2 ^ (8 - c.length) < 2 ^ c.length * 2 ^ (8 - c.length) := Nat.mul_lt_mul_of_pos_right h1 (Nat.two_pow_pos _)
    _ = 2 ^ 8 := by rw [← Nat.pow_add]; congr 1; omega
theorem valB_false : ∀ n : Nat, valB (List.replicate n false) = 0
  | 0 => rfl
  | n + 1 => by rw [List.replicate_succ, show false :: List.replicate n false = [false] ++ List.replicate n false from rfl, valB_append, valB_false n]; simp [valB]
theorem byteB_valB {c : List Bool} (h : c.length ≤ 8) : byteB c = valB (c ++ List.replicate (8 - c.length) false) := by
  rw [valB_append, valB_false, List.length_replicate]; rfl
theorem bits_byteB {c : List Bool} (h : c.length ≤ 8) : bitsN 8 (byteB c) = c ++ List.replicate (8 - c.length) false := by
  rw [byteB_valB h]
  have := bitsN_valB (c ++ List.replicate (8 - c.length) false)
  rwa [show (c ++ List.replicate (8 - c.length) false).length = 8 by simp; omega] at this
theorem len_packB (l : List Bool) : (packB l).length = (l.length + 7) / 8 := by simp [packB]
theorem packB_one {c : List Bool} (h0 : 0 < c.length) (h : c.length ≤ 8) : packB c = [(byteB c : Int)] := by
  unfold packB
  rw [show (c.length + 7) / 8 = 1 by omega]
  simp [List.range_succ, List.take_of_length_le h]
theorem packB_block {l : List Bool} (k : Nat) (h : l.length = 8 * k) (d : List Bool) : packB (l ++ d) = packB l ++ packB d := by
  apply List.ext_getElem?
  intro i
  unfold packB
  rw [show ((l ++ d).length + 7) / 8 = k + (d.length + 7) / 8 by rw [List.length_append]; omega, show (l.length + 7) / 8 = k by omega, List.range_add]
  simp only [List.map_append, List.map_map]
  by_cases hi : i < k
  · rw [List.getElem?_append_left (by simpa using hi), List.getElem?_append_left (by simpa using hi)]
    simp only [List.getElem?_map, List.getElem?_range hi, Option.map_some]
    rw [List.drop_append_of_le_length (by omega), List.take_append_of_le_length (by rw [List.length_drop]; omega)]
  · rw [List.getElem?_append_right (by simp; omega), List.getElem?_append_right (by simp; omega)]
    simp only [List.length_map, List.length_range, List.getElem?_map]
    by_cases hj : i - k < (d.length + 7) / 8
    · simp only [List.getElem?_range hj, Option.map_some, Function.comp]
      rw [List.drop_append, List.drop_of_length_le (by omega), show 8 * (k + (i - k)) - l.length = 8 * (i - k) by omega]
      simp
    · simp [List.getElem?_range, hj]
theorem packB_step {l c : List Bool} (h : l.length % 8 = 0) (h0 : 0 < c.length) (h8 : c.length ≤ 8) : packB (l ++ c) = packB l ++ [(byteB c : Int)] := by
  rw [packB_block (l.length / 8) (by omega), packB_one h0 h8]
/-- The whole bytes and what is begun. -/
theorem split8 (l : List Bool) : ∃ l0 d, l = l0 ++ d ∧ l0.length = 8 * (l.length / 8) ∧ d.length = l.length % 8 :=
  ⟨l.take (8 * (l.length / 8)), l.drop (8 * (l.length / 8)), (List.take_append_drop _ _).symm, by rw [List.length_take]; omega, by rw [List.length_drop]; omega⟩
theorem packB_more {l0 d c : List Bool} {k : Nat} (hk : l0.length = 8 * k) (hd : 0 < d.length) (h : d.length + c.length ≤ 8) :
    packB (l0 ++ d) = packB l0 ++ [(byteB d : Int)] ∧ packB (l0 ++ d ++ c) = packB l0 ++ [(byteB (d ++ c) : Int)] := by
  constructor
  · rw [packB_block k hk, packB_one hd (by omega)]
  · rw [List.append_assoc, packB_block k hk, packB_one (c := d ++ c) (by rw [List.length_append]; omega) (by rw [List.length_append]; omega)]
theorem byteB_more {d c : List Bool} (h : d.length + c.length ≤ 8) : byteB (d ++ c) = byteB d + valB c * 2 ^ (8 - d.length - c.length) := by
  unfold byteB
  rw [valB_append, List.length_append, Nat.add_mul, Nat.mul_assoc, ← Nat.pow_add, show c.length + (8 - (d.length + c.length)) = 8 - d.length by omega, show 8 - (d.length + c.length) = 8 - d.length - c.length by omega]
theorem byteB_or {d c : List Bool} (h : d.length + c.length ≤ 8) : byteB d ||| valB c * 2 ^ (8 - d.length - c.length) = byteB (d ++ c) := by
  rw [byteB_more h]
  have h1 := valB_lt c
  have h2 : valB c * 2 ^ (8 - d.length - c.length) < 2 ^ (8 - d.length) := by
    calc valB c * 2 ^ (8 - d.length - c.length) < 2 ^ c.length * 2 ^ (8 - d.length - c.length) := Nat.mul_lt_mul_of_pos_right h1 (Nat.two_pow_pos _)
      _ = 2 ^ (8 - d.length) := by rw [← Nat.pow_add]; congr 1; omega
  rw [byteB, Nat.mul_comm (valB d), Nat.two_pow_add_eq_or_of_lt h2]
def pad8 (n : Nat) : Nat := (8 - n % 8) % 8
theorem packB_bits : ∀ (n : Nat) (l : List Bool), l.length ≤ n → (packB l).flatMap (fun x => bitsN 8 x.toNat) = l ++ List.replicate (pad8 l.length) false
  | 0, l, h => by
    have : l = [] := List.length_eq_zero_iff.1 (by omega)
    subst this; rfl
  | n + 1, l, h => by
    by_cases h8 : l.length ≤ 8
    · by_cases h0 : l.length = 0
      · have : l = [] := List.length_eq_zero_iff.1 h0
        subst this; rfl
      · rw [packB_one (by omega) h8]
        simp only [List.flatMap_cons, List.flatMap_nil, List.append_nil, Int.toNat_natCast]
        rw [bits_byteB h8]
        congr 2
        unfold pad8
        omega
    · have ht : (l.take 8).length = 8 := by rw [List.length_take]; omega
      have hd : (l.drop 8).length = l.length - 8 := List.length_drop
      have e : packB l = packB (l.take 8) ++ packB (l.drop 8) := by
        have := packB_block 1 ht (l.drop 8)
        rwa [List.take_append_drop] at this
      rw [e, List.flatMap_append, packB_bits n (l.drop 8) (by omega), packB_one (by omega) (by omega)]
      simp only [List.flatMap_cons, List.flatMap_nil, List.append_nil, Int.toNat_natCast]
      rw [bits_byteB (by omega), ht]
      simp only [Nat.sub_self, List.replicate_zero, List.append_nil]
      rw [← List.append_assoc, List.take_append_drop, hd]
      congr 2
      unfold pad8
      omega
theorem packB_byte {l : List Bool} {x : Int} (h : x ∈ packB l) : 0 ≤ x ∧ x < 256 := by
  obtain ⟨i, _, rfl⟩ := List.mem_map.1 h
  have := byteB_lt (c := (l.drop (8 * i)).take 8) (by rw [List.length_take]; omega)
  omega
theorem bits_txtOf {xs : List Int} (h : ∀ x ∈ xs, 0 ≤ x ∧ x < 256) : bitsT (txtOf xs) = xs.flatMap fun x => bitsN 8 x.toNat := by
  unfold bitsT txtOf
  simp only [List.flatMap_map, ]
  rw [List.flatMap_def, List.flatMap_def]
  congr 1
  apply List.map_congr_left
  intro x hx
  have := h x hx
  congr 1
  simp [UInt8.toNat_ofNat']
  omega
theorem bits_pack (l : List Bool) : bitsT (packT l) = l ++ List.replicate (pad8 l.length) false := by
  rw [packT, bits_txtOf fun x => packB_byte, packB_bits _ l (Nat.le_refl _)]
theorem len_bitsT (t : ByteArray) : (bitsT t).length = 8 * t.size := by
  have : ∀ l : List UInt8, (l.flatMap fun b => bitsN 8 b.toNat).length = 8 * l.length := by
    intro l
    induction l with
    | nil => rfl
    | cons b l ih => rw [List.flatMap_cons, List.length_append, ih, len_bitsN, List.length_cons]; omega
  rw [bitsT, this]; rfl
theorem bitsT_inj {t u : ByteArray} (h : bitsT t = bitsT u) : t = u := by
  have : ∀ l k : List UInt8, (l.flatMap fun b => bitsN 8 b.toNat) = (k.flatMap fun b => bitsN 8 b.toNat) → l = k := by
    intro l
    induction l with
    | nil =>
      intro k h
      cases k with
      | nil => rfl
      | cons c k =>
        have := congrArg List.length h
        simp [len_bitsN] at this
        omega
    | cons b l ih =>
      intro k h
      cases k with
      | nil =>
        have := congrArg List.length h
        simp [len_bitsN] at this
      | cons c k =>
        simp only [List.flatMap_cons] at h
        obtain ⟨h1, h2⟩ := List.append_inj h (by rw [len_bitsN, len_bitsN])
        have e := congrArg valB h1
        rw [valB_bitsN, valB_bitsN] at e
        have hb := b.toNat_lt
        have hc := c.toNat_lt
        have : b = c := UInt8.toNat_inj.1 (by omega)
        rw [this, ih k h2]
  cases t; cases u
  simp only [bitsT] at h
  have := this _ _ h
  congr 1
  exact Array.toList_inj.1 this
theorem packT_iff {l : List Bool} {t : ByteArray} : packT l = t ↔ bitsT t = l ++ List.replicate (pad8 l.length) false :=
  ⟨fun h => by rw [← h, bits_pack], fun h => bitsT_inj (by rw [bits_pack, h])⟩
theorem size_packT (l : List Bool) : (packT l).size = (l.length + 7) / 8 := by
  simp [packT, txtOf, ByteArray.size, len_packB]
/-- Which texts the noughts behind some bits make whole. -/
theorem packT_rest {l r : List Bool} {t : ByteArray} (h : bitsT t = l ++ r) : packT l = t ↔ r.length < 8 ∧ ∀ b ∈ r, b = false := by
  have hl := len_bitsT t
  rw [h, List.length_append] at hl
  rw [packT_iff, h]
  constructor
  · intro e
    have e := List.append_cancel_left e
    rw [e]
    exact ⟨by rw [List.length_replicate]; unfold pad8; omega, fun b hb => (List.mem_replicate.1 hb).2⟩
  · intro ⟨h1, h2⟩
    congr 1
    apply List.eq_replicate_iff.2
    exact ⟨by unfold pad8; omega, h2⟩
end Go.Co.N
end

section
namespace Go.Co.N
open Go Go.Co

theorem shrN (k : IntKind) (n v : Nat) (h : v ≤ k.bits) : shrI k (n : Int) (v : Int) = ((n / 2 ^ v : Nat) : Int) := by
  unfold shrI
  have : min (v : Int).toNat k.bits = v := by simp; omega
  rw [this, Int.fdiv_eq_ediv_of_nonneg _ (Int.pow_nonneg (by omega))]
  simp
theorem u64N (n : Nat) (h : n < 18446744073709551616) : IntKind.u64.wrap (n : Int) = (n : Int) := Go.IntWalk.u64_in _ (by omega)
theorem u8N (n : Nat) : IntKind.u8.wrap (n : Int) = ((n % 256 : Nat) : Int) := by
  unfold IntKind.wrap
  simp [IntKind.bits, IntKind.signed]
  try omega
theorem i64N (n : Nat) (h : n < 9223372036854775808) : IntKind.i64.wrap (n : Int) = (n : Int) := i64_in _ (by omega)
theorem and7 (n : Nat) (h : n < 9223372036854775808) : bw .and .i64 (n : Int) 7 = ((n % 8 : Nat) : Int) := by
  have e1 : BitVec.ofInt IntKind.i64.bits (n : Int) = BitVec.ofNat 64 n := by simp [IntKind.bits]
  have e2 : BitVec.ofInt IntKind.i64.bits 7 = BitVec.ofNat 64 7 := by simp [IntKind.bits]
  have h7 : n &&& 7 = n % 8 := Nat.and_two_pow_sub_one_eq_mod n 3
  unfold bw
  simp only [e1, e2]
  have : (BitVec.ofNat 64 n &&& BitVec.ofNat 64 7).toNat = n % 8 := by
    rw [BitVec.toNat_and, BitVec.toNat_ofNat, BitVec.toNat_ofNat, Nat.mod_eq_of_lt (by omega : n < 2 ^ 64), Nat.mod_eq_of_lt (by omega : 7 < 2 ^ 64), h7]
  show IntKind.i64.wrap ((BitVec.ofNat 64 n &&& BitVec.ofNat 64 7).toNat : Int) = _
  rw [this, i64N _ (by omega)]
theorem and8 (n m : Nat) (hn : n < 256) (hm : m < 256) : bw .and .u8 (n : Int) (m : Int) = ((n &&& m : Nat) : Int) := by
  have e1 : BitVec.ofInt IntKind.u8.bits (n : Int) = BitVec.ofNat 8 n := by simp [IntKind.bits]
  have e2 : BitVec.ofInt IntKind.u8.bits (m : Int) = BitVec.ofNat 8 m := by simp [IntKind.bits]
  have hle : n &&& m ≤ n := Nat.and_le_left
  unfold bw
  simp only [e1, e2]
  have : (BitVec.ofNat 8 n &&& BitVec.ofNat 8 m).toNat = n &&& m := by
    rw [BitVec.toNat_and, BitVec.toNat_ofNat, BitVec.toNat_ofNat, Nat.mod_eq_of_lt (by omega : n < 2 ^ 8), Nat.mod_eq_of_lt (by omega : m < 2 ^ 8)]
  show IntKind.u8.wrap ((BitVec.ofNat 8 n &&& BitVec.ofNat 8 m).toNat : Int) = _
  rw [this, u8N, Nat.mod_eq_of_lt (by omega)]
theorem or8 (n m : Nat) (hn : n < 256) (hm : m < 256) : bw .or .u8 (n : Int) (m : Int) = ((n ||| m : Nat) : Int) := by
  have e1 : BitVec.ofInt IntKind.u8.bits (n : Int) = BitVec.ofNat 8 n := by simp [IntKind.bits]
  have e2 : BitVec.ofInt IntKind.u8.bits (m : Int) = BitVec.ofNat 8 m := by simp [IntKind.bits]
  have hle : n ||| m < 256 := Nat.or_lt_two_pow (n := 8) hn hm
  unfold bw
  simp only [e1, e2]
  have : (BitVec.ofNat 8 n ||| BitVec.ofNat 8 m).toNat = n ||| m := by
    rw [BitVec.toNat_or, BitVec.toNat_ofNat, BitVec.toNat_ofNat, Nat.mod_eq_of_lt (by omega : n < 2 ^ 8), Nat.mod_eq_of_lt (by omega : m < 2 ^ 8)]
  show IntKind.u8.wrap ((BitVec.ofNat 8 n ||| BitVec.ofNat 8 m).toNat : Int) = _
  rw [this, u8N, Nat.mod_eq_of_lt (by omega)]
theorem or64 (n m : Nat) (hn : n < 18446744073709551616) (hm : m < 18446744073709551616) : bw .or .u64 (n : Int) (m : Int) = ((n ||| m : Nat) : Int) := bw_or64 n m hn hm
/-- The mask of n ones. -/
theorem mask8 (n : Nat) (h : n ≤ 8) : IntKind.u8.wrap (shlI .u8 1 (n : Int) - 1) = ((2 ^ n - 1 : Nat) : Int) := by
  rcases (by omega : n = 0 ∨ n = 1 ∨ n = 2 ∨ n = 3 ∨ n = 4 ∨ n = 5 ∨ n = 6 ∨ n = 7 ∨ n = 8) with h | h | h | h | h | h | h | h | h <;> subst h <;> rfl
theorem and_mask (x n : Nat) : x &&& (2 ^ n - 1) = x % 2 ^ n := Nat.and_two_pow_sub_one_eq_mod x n
theorem shl8 (x v : Nat) (h : x * 2 ^ v < 256) (hv : v ≤ 8) : shlI .u8 (x : Int) (v : Int) = ((x * 2 ^ v : Nat) : Int) := by
  unfold shlI
  have : min (v : Int).toNat IntKind.u8.bits = v := by simp [IntKind.bits]; omega
  rw [this]
  have e : ((x : Int) * 2 ^ v) = ((x * 2 ^ v : Nat) : Int) := by simp
  rw [e, u8N, Nat.mod_eq_of_lt h]
theorem shl64 (x v : Nat) (h : x * 2 ^ v < 18446744073709551616) (hv : v ≤ 64) : shlI .u64 (x : Int) (v : Int) = ((x * 2 ^ v : Nat) : Int) := by
  unfold shlI
  have : min (v : Int).toNat IntKind.u64.bits = v := by simp [IntKind.bits]; omega
  rw [this]
  have e : ((x : Int) * 2 ^ v) = ((x * 2 ^ v : Nat) : Int) := by simp
  rw [e, u64N _ h]

/-! ### Bits out of the middle -/
theorem bitsN_mid (w x s n : Nat) (h : s + n ≤ w) : ((bitsN w x).drop s).take n = bitsN n (x / 2 ^ (w - s - n)) := by
  have e1 : bitsN w x = bitsN s (x >>> (n + (w - s - n))) ++ (bitsN n (x >>> (w - s - n)) ++ bitsN (w - s - n) x) := by
    rw [← bitsN_add, ← bitsN_add]; congr 1; omega
  rw [e1, List.drop_left' (len_bitsN _ _), List.take_left' (len_bitsN _ _), Nat.shiftRight_eq_div_pow]
theorem bitsT_at (t : ByteArray) (i : Nat) (h : i < t.size) : (bitsT t).drop (8 * i) = bitsN 8 (bat t (i : Int)).toNat ++ (bitsT t).drop (8 * (i + 1)) := by
  have key : ∀ (l : List UInt8) (i : Nat), i < l.length → (l.flatMap fun b => bitsN 8 b.toNat).drop (8 * i) = bitsN 8 (l.getD i 0).toNat ++ (l.flatMap fun b => bitsN 8 b.toNat).drop (8 * (i + 1)) := by
    intro l
    induction l with
    | nil => intro i h; simp at h
    | cons b l ih =>
      intro i h
      rw [List.flatMap_cons]
      cases i with
      | zero =>
        rw [show 8 * 0 = 0 from rfl, List.drop_zero, show 8 * (0 + 1) = 8 from rfl, List.drop_left' (len_bitsN _ _)]
        simp
      | succ i =>
        have hi : i < l.length := by simpa using h
        have hd : ∀ k, (bitsN 8 b.toNat ++ l.flatMap fun b => bitsN 8 b.toNat).drop (8 * (k + 1)) = (l.flatMap fun b => bitsN 8 b.toNat).drop (8 * k) := by
          intro k
          rw [List.drop_append, List.drop_of_length_le (by rw [len_bitsN]; omega), len_bitsN, List.nil_append]
          congr 1
        rw [hd, hd, ih i hi]
        simp
  have h1 := key t.data.toList i h
  unfold bitsT bat
  rw [h1]
  congr 2
  simp
theorem bat_lt (t : ByteArray) (i : Int) : 0 ≤ bat t i ∧ bat t i < 256 := by
  unfold bat
  have := (t.data.getD i.toNat 0).toNat_lt
  omega
theorem bitsT_mid (t : ByteArray) (p n : Nat) (h : p < 8 * t.size) (hn : n ≤ 8 - p % 8) : ((bitsT t).drop p).take n = bitsN n ((bat t ((p / 8 : Nat) : Int)).toNat / 2 ^ (8 - p % 8 - n)) := by
  have e : p = 8 * (p / 8) + p % 8 := by omega
  have h1 := bitsT_at t (p / 8) (by omega)
  have e2 : (bitsT t).drop p = ((bitsT t).drop (8 * (p / 8))).drop (p % 8) := by rw [List.drop_drop]; congr 1
  rw [e2, h1, List.drop_append_of_le_length (by rw [len_bitsN]; omega), List.take_append_of_le_length (by rw [List.length_drop, len_bitsN]; omega)]
  exact bitsN_mid 8 _ _ _ (by omega)
theorem valB_mid (t : ByteArray) (p n : Nat) (h : p < 8 * t.size) (hn : n ≤ 8 - p % 8) : valB (((bitsT t).drop p).take n) = (bat t ((p / 8 : Nat) : Int)).toNat / 2 ^ (8 - p % 8 - n) % 2 ^ n := by
  rw [bitsT_mid t p n h hn, valB_bitsN]
end Go.Co.N
end

section
set_option maxRecDepth 100000
noncomputable section
namespace Go.Co.N
open Go Go.Co
/-- coterie/bits.fits -/
def g_bits_fits : Int × Int × Unit → Option (Bool × Unit)
  | (a, b, _) => bif decide (1 ≤ b) then bif decide (b ≤ 64) then bif decide (b = 64) then some (true, ()) else some (decide (shrI IntKind.u64 a (IntKind.wrap IntKind.u64 b) = 0), ()) else some (false, ()) else some (false, ())
/-- coterie/record.between -/
def g_record_between : Int × Int × Int × Unit → Option (Bool × Unit)
  | (a, b, c, _) => bif decide (b ≤ a) then some (decide (a ≤ c), ()) else some (false, ())
def g_record_right_r1 : (Unit × List Int × Int × Int × Unit) × (Record × Unit) × Unit → Option (((Unit × List Int × Int × Int × Unit) × (Record × Unit) × Unit) ⊕ ((Bool × Unit) × Unit × Unit ⊕ (Unit × Unit) × (Record × Unit) × Unit))
  | ((_, a, b, c, _), (d, _), _) => bif decide (c < b) then bif decide (0 ≤ c) && decide (c < (↑(List.length a) : Int)) then bif !betw (lat a c) 0 255 then some (Sum.inr (Sum.inl ((false, ()), (), ()))) else some (Sum.inl (((), a, b, IntKind.wrap IntKind.i64 (c + 1), ()), (d, ()), ())) else none else some (Sum.inr (Sum.inr (((), ()), (d, ()), ())))
def g_record_right_r2 : (List Seat × Int × Int × Unit) × Unit × Unit → Option (((List Seat × Int × Int × Unit) × Unit × Unit) ⊕ ((Bool × Unit) × Unit × Unit ⊕ Unit × Unit × Unit))
  | ((a, b, c, _), _, _) => bif decide (c < b) then bif decide (0 ≤ c) && decide (c < (↑(List.length a) : Int)) then bif !betw (lat a c).Who 0 255 then some (Sum.inr (Sum.inl ((false, ()), (), ()))) else bif !betw (lat a c).Slot 0 63 then some (Sum.inr (Sum.inl ((false, ()), (), ()))) else some (Sum.inl ((a, b, IntKind.wrap IntKind.i64 (c + 1), ()), (), ())) else none else some (Sum.inr (Sum.inr ((), (), ())))
/-- coterie/record.right -/
def g_record_right : Record × Unit → Option (Bool × Unit)
  | (a, _) => bif !betw a.Epoch 1 200 then some (false, ()) else bif !betw a.Fresh 22 32768 then some (false, ()) else bif decide (64 < max (↑(List.length a.Leaves) : Int) (↑(List.length a.Joins) : Int)) then some (false, ()) else Option.bind (lfp g_record_right_r1 (((), a.Leaves, (↑(List.length a.Leaves) : Int), 0, ()), (a, ()), ())) fun z => Sum.elim (fun x => some (x.fst.fst, ())) (fun z => Option.bind (lfp g_record_right_r2 ((z.snd.fst.fst.Joins, (↑(List.length z.snd.fst.fst.Joins) : Int), 0, ()), (), ())) fun z => Sum.elim (fun x => some (x.fst.fst, ())) (fun _ => some (true, ())) z) z
def g_record_Write_r2 : (Unit × Int × Int × Unit) × ((Ctr × List Int × Unit) × Unit) × Unit → Option (((Unit × Int × Int × Unit) × ((Ctr × List Int × Unit) × Unit) × Unit) ⊕ (Unit × ((Ctr × List Int × Unit) × Unit) × Unit))
  | ((_, a, b, _), ((c, d, _), _), _) => bif decide (0 < b) then bif decide (IntKind.wrap IntKind.i64 (8 - bw BinOp.and IntKind.i64 c.n 7) = 8) then bif decide ((List.length d + 1) * 1 ≤ 140737488355328) then bif decide (0 ≤ IntKind.wrap IntKind.i64 ((↑(List.length (List.append d [0])) : Int) - 1)) && decide (IntKind.wrap IntKind.i64 ((↑(List.length (List.append d [0])) : Int) - 1) < (↑(List.length (List.append d [0])) : Int)) then bif decide (0 ≤ IntKind.wrap IntKind.i64 ((↑(List.length (List.append d [0])) : Int) - 1)) && decide (IntKind.wrap IntKind.i64 ((↑(List.length (List.append d [0])) : Int) - 1) < (↑(List.length (List.append d [0])) : Int)) then some (Sum.inl (((), a, IntKind.wrap IntKind.i64 (b - min (IntKind.wrap IntKind.i64 (8 - bw BinOp.and IntKind.i64 c.n 7)) b), ()), ((Ctr.mk (IntKind.wrap IntKind.i64 (c.n + min (IntKind.wrap IntKind.i64 (8 - bw BinOp.and IntKind.i64 c.n 7)) b)), lput (List.append d [0]) (IntKind.wrap IntKind.i64 ((↑(List.length (List.append d [0])) : Int) - 1)) (bw BinOp.or IntKind.u8 (lat (List.append d [0]) (IntKind.wrap IntKind.i64 ((↑(List.length (List.append d [0])) : Int) - 1))) (shlI IntKind.u8 (bw BinOp.and IntKind.u8 (IntKind.wrap IntKind.u8 (shrI IntKind.u64 a (IntKind.wrap IntKind.u64 (IntKind.wrap IntKind.i64 (b - min (IntKind.wrap IntKind.i64 (8 - bw BinOp.and IntKind.i64 c.n 7)) b))))) (IntKind.wrap IntKind.u8 (shlI IntKind.u8 1 (IntKind.wrap IntKind.u64 (min (IntKind.wrap IntKind.i64 (8 - bw BinOp.and IntKind.i64 c.n 7)) b)) - 1))) (IntKind.wrap IntKind.u64 (IntKind.wrap IntKind.i64 (IntKind.wrap IntKind.i64 (8 - bw BinOp.and IntKind.i64 c.n 7) - min (IntKind.wrap IntKind.i64 (8 - bw BinOp.and IntKind.i64 c.n 7)) b))))), ()), ()), ())) else none else none else none else bif decide (0 ≤ IntKind.wrap IntKind.i64 ((↑(List.length d) : Int) - 1)) && decide (IntKind.wrap IntKind.i64 ((↑(List.length d) : Int) - 1) < (↑(List.length d) : Int)) then bif decide (0 ≤ IntKind.wrap IntKind.i64 ((↑(List.length d) : Int) - 1)) && decide (IntKind.wrap IntKind.i64 ((↑(List.length d) : Int) - 1) < (↑(List.length d) : Int)) then some (Sum.inl (((), a, IntKind.wrap IntKind.i64 (b - min (IntKind.wrap IntKind.i64 (8 - bw BinOp.and IntKind.i64 c.n 7)) b), ()), ((Ctr.mk (IntKind.wrap IntKind.i64 (c.n + min (IntKind.wrap IntKind.i64 (8 - bw BinOp.and IntKind.i64 c.n 7)) b)), lput d (IntKind.wrap IntKind.i64 ((↑(List.length d) : Int) - 1)) (bw BinOp.or IntKind.u8 (lat d (IntKind.wrap IntKind.i64 ((↑(List.length d) : Int) - 1))) (shlI IntKind.u8 (bw BinOp.and IntKind.u8 (IntKind.wrap IntKind.u8 (shrI IntKind.u64 a (IntKind.wrap IntKind.u64 (IntKind.wrap IntKind.i64 (b - min (IntKind.wrap IntKind.i64 (8 - bw BinOp.and IntKind.i64 c.n 7)) b))))) (IntKind.wrap IntKind.u8 (shlI IntKind.u8 1 (IntKind.wrap IntKind.u64 (min (IntKind.wrap IntKind.i64 (8 - bw BinOp.and IntKind.i64 c.n 7)) b)) - 1))) (IntKind.wrap IntKind.u64 (IntKind.wrap IntKind.i64 (IntKind.wrap IntKind.i64 (8 - bw BinOp.and IntKind.i64 c.n 7) - min (IntKind.wrap IntKind.i64 (8 - bw BinOp.and IntKind.i64 c.n 7)) b))))), ()), ()), ())) else none else none else some (Sum.inr ((), ((c, d, ()), ()), ()))
def g_record_Write_o1 : (Unit × Int × Int × Unit) × ((Ctr × List Int × Unit) × Unit) × Unit → Option ((Int × Unit) × ((Ctr × List Int × Unit) × Unit) × Unit)
  | ((_, a, b, _), ((c, d, _), _), _) => bif !fitW a b then some ((6, ()), ((c, d, ()), ()), ()) else Option.bind (lfp g_record_Write_r2 (((), a, b, ()), ((c, d, ()), ()), ())) fun z => some ((0, ()), ((z.snd.fst.fst.fst, z.snd.fst.fst.snd.fst, ()), ()), ())
def g_record_Write_r7 : (Unit × Unit × Unit × List Int × Int × Int × Unit) × ((Ctr × List Int × Unit) × Unit × Unit) × Unit → Option (((Unit × Unit × Unit × List Int × Int × Int × Unit) × ((Ctr × List Int × Unit) × Unit × Unit) × Unit) ⊕ ((Unit × Unit × Unit × Unit) × ((Ctr × List Int × Unit) × Unit × Unit) × Unit))
  | ((_, _, _, a, b, c, _), ((d, e, _), _, _), _) => bif decide (c < b) then bif decide (0 ≤ c) && decide (c < (↑(List.length a) : Int)) then Option.bind (once g_record_Write_o1 (((), IntKind.wrap IntKind.u64 (lat a c), 8, ()), ((d, e, ()), ()), ())) fun z => some (Sum.inl (((), (), (), a, b, IntKind.wrap IntKind.i64 (c + 1), ()), ((z.snd.fst.fst.fst, z.snd.fst.fst.snd.fst, ()), (), ()), ())) else none else some (Sum.inr (((), (), (), ()), ((d, e, ()), (), ()), ()))
def g_record_Write_r12 : (Unit × Unit × List Seat × Int × Int × Unit) × ((Ctr × List Int × Unit) × Unit × Unit) × Unit → Option (((Unit × Unit × List Seat × Int × Int × Unit) × ((Ctr × List Int × Unit) × Unit × Unit) × Unit) ⊕ ((Unit × Unit) × ((Ctr × List Int × Unit) × Unit × Unit) × Unit))
  | ((_, _, a, b, c, _), ((d, e, _), _, _), _) => bif decide (c < b) then bif decide (0 ≤ c) && decide (c < (↑(List.length a) : Int)) then Option.bind (once g_record_Write_o1 (((), IntKind.wrap IntKind.u64 (lat a c).Who, 8, ()), ((d, e, ()), ()), ())) fun z => Option.bind (once g_record_Write_o1 (((), IntKind.wrap IntKind.u64 (lat a c).Slot, 6, ()), ((z.snd.fst.fst.fst, z.snd.fst.fst.snd.fst, ()), ()), ())) fun z => some (Sum.inl (((), (), a, b, IntKind.wrap IntKind.i64 (c + 1), ()), ((z.snd.fst.fst.fst, z.snd.fst.fst.snd.fst, ()), (), ()), ())) else none else some (Sum.inr (((), ()), ((d, e, ()), (), ()), ()))
/-- coterie/record.Write -/
def g_record_Write : Record × Unit → Option (ByteArray × Int × Unit)
  | (a, _) => bif !goodRec a then some (bytesOf [], 12, ()) else Option.bind (once g_record_Write_o1 (((), IntKind.wrap IntKind.u64 a.Epoch, 8, ()), ((St.zero St.counter, [], ()), ()), ())) fun z => Option.bind (once g_record_Write_o1 (((), IntKind.wrap IntKind.u64 a.Fresh, 16, ()), ((z.snd.fst.fst.fst, z.snd.fst.fst.snd.fst, ()), ()), ())) fun z => Option.bind (once g_record_Write_o1 (((), IntKind.wrap IntKind.u64 (↑(List.length a.Leaves) : Int), 7, ()), ((z.snd.fst.fst.fst, z.snd.fst.fst.snd.fst, ()), ()), ())) fun z => Option.bind (lfp g_record_Write_r7 (((), (), (), a.Leaves, (↑(List.length a.Leaves) : Int), 0, ()), ((z.snd.fst.fst.fst, z.snd.fst.fst.snd.fst, ()), (), ()), ())) fun z => Option.bind (once g_record_Write_o1 (((), IntKind.wrap IntKind.u64 (↑(List.length a.Joins) : Int), 7, ()), ((z.snd.fst.fst.fst, z.snd.fst.fst.snd.fst, ()), ()), ())) fun z => Option.bind (lfp g_record_Write_r12 (((), (), a.Joins, (↑(List.length a.Joins) : Int), 0, ()), ((z.snd.fst.fst.fst, z.snd.fst.fst.snd.fst, ()), (), ()), ())) fun z => some (txtOf z.snd.fst.fst.snd.fst, 0, ())
def g_record_Read_r3 : (Unit × Int × Int × Unit) × (Rdr × Unit) × Unit → Option (((Unit × Int × Int × Unit) × (Rdr × Unit) × Unit) ⊕ ((Int × Unit) × (Rdr × Unit) × Unit))
  | ((_, a, b, _), (c, _), _) => bif decide (0 < b) then bif decide (0 ≤ shrI IntKind.i64 c.counter.n 3) && decide (shrI IntKind.i64 c.counter.n 3 < (↑(ByteArray.size c.text) : Int)) then some (Sum.inl (((), bw BinOp.or IntKind.u64 (shlI IntKind.u64 a (IntKind.wrap IntKind.u64 (min (IntKind.wrap IntKind.i64 (8 - bw BinOp.and IntKind.i64 c.counter.n 7)) b))) (IntKind.wrap IntKind.u64 (bw BinOp.and IntKind.u8 (shrI IntKind.u8 (bat c.text (shrI IntKind.i64 c.counter.n 3)) (IntKind.wrap IntKind.u64 (IntKind.wrap IntKind.i64 (IntKind.wrap IntKind.i64 (8 - bw BinOp.and IntKind.i64 c.counter.n 7) - min (IntKind.wrap IntKind.i64 (8 - bw BinOp.and IntKind.i64 c.counter.n 7)) b)))) (IntKind.wrap IntKind.u8 (shlI IntKind.u8 1 (IntKind.wrap IntKind.u64 (min (IntKind.wrap IntKind.i64 (8 - bw BinOp.and IntKind.i64 c.counter.n 7)) b)) - 1)))), IntKind.wrap IntKind.i64 (b - min (IntKind.wrap IntKind.i64 (8 - bw BinOp.and IntKind.i64 c.counter.n 7)) b), ()), (Rdr.mk (Ctr.mk (IntKind.wrap IntKind.i64 (c.counter.n + min (IntKind.wrap IntKind.i64 (8 - bw BinOp.and IntKind.i64 c.counter.n 7)) b))) c.text, ()), ())) else none else some (Sum.inr ((a, ()), (c, ()), ()))
def g_record_Read_o2 : (Unit × Int × Unit) × (Rdr × Unit) × Unit → Option ((Int × Int × Unit) × (Rdr × Unit) × Unit)
  | ((_, a, _), (b, _), _) => bif decide (a < 1) then some ((0, 6, ()), (b, ()), ()) else bif decide (64 < a) then some ((0, 6, ()), (b, ()), ()) else bif decide (IntKind.wrap IntKind.i64 (IntKind.wrap IntKind.i64 (8 * (↑(ByteArray.size b.text) : Int)) - b.counter.n) < a) then some ((0, 6, ()), (b, ()), ()) else Option.bind (lfp g_record_Read_r3 (((), 0, a, ()), (b, ()), ())) fun z => some ((z.fst.fst, 0, ()), (z.snd.fst.fst, ()), ())
def g_record_Read_o1 : (Int × Unit × Unit × Unit) × (Rdr × Unit × Bool × Unit) × Unit → Option ((Int × Unit) × (Rdr × Unit × Bool × Unit) × Unit)
  | ((a, _, _, _), (b, _, c, _), _) => Option.bind (once g_record_Read_o2 (((), a, ()), (b, ()), ())) fun z => bif c then some ((IntKind.wrap IntKind.i64 z.fst.fst, ()), (z.snd.fst.fst, (), true, ()), ()) else some ((IntKind.wrap IntKind.i64 z.fst.fst, ()), (z.snd.fst.fst, (), !decide (z.fst.snd.fst = 0), ()), ())
def g_record_Read_r10 : (Unit × Unit × Unit × Unit × Unit × Int × Int × Unit) × (Rdr × Unit × Bool × (Int × Int × List Int × Unit × Unit) × Unit) × Unit → Option (((Unit × Unit × Unit × Unit × Unit × Int × Int × Unit) × (Rdr × Unit × Bool × (Int × Int × List Int × Unit × Unit) × Unit) × Unit) ⊕ ((Unit × Unit × Unit × Unit × Unit × Unit) × (Rdr × Unit × Bool × (Int × Int × List Int × Unit × Unit) × Unit) × Unit))
  | ((_, _, _, _, _, a, b, _), (c, _, d, (e, f, g, _, _), _), _) => bif decide (b < a) then Option.bind (once g_record_Read_o1 ((8, (), (), ()), (c, (), d, ()), ())) fun z => bif decide ((List.length g + 1) * 8 ≤ 140737488355328) then some (Sum.inl (((), (), (), (), (), a, IntKind.wrap IntKind.i64 (b + 1), ()), (z.snd.fst.fst, (), z.snd.fst.snd.snd.fst, (e, f, List.append g [z.fst.fst], (), ()), ()), ())) else none else some (Sum.inr (((), (), (), (), (), ()), (c, (), d, (e, f, g, (), ()), ()), ()))
def g_record_Read_r17 : (Unit × Unit × Unit × Unit × Unit × Int × Int × Unit) × (Rdr × Unit × Bool × (Int × Int × Unit × List Seat × Unit) × Unit) × Unit → Option (((Unit × Unit × Unit × Unit × Unit × Int × Int × Unit) × (Rdr × Unit × Bool × (Int × Int × Unit × List Seat × Unit) × Unit) × Unit) ⊕ ((Unit × Unit × Unit × Unit × Unit) × (Rdr × Unit × Bool × (Int × Int × Unit × List Seat × Unit) × Unit) × Unit))
  | ((_, _, _, _, _, a, b, _), (c, _, d, (e, f, _, g, _), _), _) => bif decide (b < a) then Option.bind (once g_record_Read_o1 ((8, (), (), ()), (c, (), d, ()), ())) fun z => Option.bind (once g_record_Read_o1 ((6, (), (), ()), (z.snd.fst.fst, (), z.snd.fst.snd.snd.fst, ()), ())) fun z_1 => bif decide ((List.length g + 1) * 16 ≤ 140737488355328) then some (Sum.inl (((), (), (), (), (), a, IntKind.wrap IntKind.i64 (b + 1), ()), (z_1.snd.fst.fst, (), z_1.snd.fst.snd.snd.fst, (e, f, (), List.append g [Seat.mk z.fst.fst z_1.fst.fst], ()), ()), ())) else none else some (Sum.inr (((), (), (), (), ()), (c, (), d, (e, f, (), g, ()), ()), ()))
/-- coterie/record.Read -/
def g_record_Read : ByteArray × Unit → Option (Record × Int × Unit)
  | (a, _) => Option.bind (once g_record_Read_o1 ((8, (), (), ()), (Rdr.mk (St.zero St.counter) a, (), false, ()), ())) fun z => Option.bind (once g_record_Read_o1 ((16, (), (), ()), (z.snd.fst.fst, (), z.snd.fst.snd.snd.fst, ()), ())) fun z_1 => Option.bind (once g_record_Read_o1 ((7, (), (), ()), (z_1.snd.fst.fst, (), z_1.snd.fst.snd.snd.fst, ()), ())) fun z_2 => Option.bind (lfp g_record_Read_r10 (((), (), (), (), (), z_2.fst.fst, 0, ()), (z_2.snd.fst.fst, (), z_2.snd.fst.snd.snd.fst, (z.fst.fst, z_1.fst.fst, [], (), ()), ()), ())) fun z => Option.bind (once g_record_Read_o1 ((7, (), (), ()), (z.snd.fst.fst, (), z.snd.fst.snd.snd.fst, ()), ())) fun z_3 => Option.bind (lfp g_record_Read_r17 (((), (), (), (), (), z_3.fst.fst, 0, ()), (z_3.snd.fst.fst, (), z_3.snd.fst.snd.snd.fst, (z.snd.fst.snd.snd.snd.fst.fst, z.snd.fst.snd.snd.snd.fst.snd.fst, (), [], ()), ()), ())) fun z_4 => bif z_4.snd.fst.snd.snd.fst then some (Record.mk 0 0 [] [], 12, ()) else bif decide (8 ≤ IntKind.wrap IntKind.i64 (IntKind.wrap IntKind.i64 (8 * (↑(ByteArray.size z_4.snd.fst.fst.text) : Int)) - z_4.snd.fst.fst.counter.n)) then some (Record.mk 0 0 [] [], 12, ()) else bif decide (IntKind.wrap IntKind.i64 (IntKind.wrap IntKind.i64 (8 * (↑(ByteArray.size z_4.snd.fst.fst.text) : Int)) - z_4.snd.fst.fst.counter.n) = 0) then bif !goodRec (Record.mk z_4.snd.fst.snd.snd.snd.fst.fst z_4.snd.fst.snd.snd.snd.fst.snd.fst z.snd.fst.snd.snd.snd.fst.snd.snd.fst z_4.snd.fst.snd.snd.snd.fst.snd.snd.snd.fst) then some (Record.mk 0 0 [] [], 12, ()) else some (Record.mk z_4.snd.fst.snd.snd.snd.fst.fst z_4.snd.fst.snd.snd.snd.fst.snd.fst z.snd.fst.snd.snd.snd.fst.snd.snd.fst z_4.snd.fst.snd.snd.snd.fst.snd.snd.snd.fst, 0, ()) else bif decide (0 ≤ IntKind.wrap IntKind.i64 ((↑(ByteArray.size z_4.snd.fst.fst.text) : Int) - 1)) && decide (IntKind.wrap IntKind.i64 ((↑(ByteArray.size z_4.snd.fst.fst.text) : Int) - 1) < (↑(ByteArray.size z_4.snd.fst.fst.text) : Int)) then bif !decide (bw BinOp.and IntKind.u8 (bat z_4.snd.fst.fst.text (IntKind.wrap IntKind.i64 ((↑(ByteArray.size z_4.snd.fst.fst.text) : Int) - 1))) (IntKind.wrap IntKind.u8 (shlI IntKind.u8 1 (IntKind.wrap IntKind.u64 (IntKind.wrap IntKind.i64 (IntKind.wrap IntKind.i64 (8 * (↑(ByteArray.size z_4.snd.fst.fst.text) : Int)) - z_4.snd.fst.fst.counter.n))) - 1)) = 0) then some (Record.mk 0 0 [] [], 12, ()) else bif !goodRec (Record.mk z_4.snd.fst.snd.snd.snd.fst.fst z_4.snd.fst.snd.snd.snd.fst.snd.fst z.snd.fst.snd.snd.snd.fst.snd.snd.fst z_4.snd.fst.snd.snd.snd.fst.snd.snd.snd.fst) then some (Record.mk 0 0 [] [], 12, ()) else some (Record.mk z_4.snd.fst.snd.snd.snd.fst.fst z_4.snd.fst.snd.snd.snd.fst.snd.fst z.snd.fst.snd.snd.snd.fst.snd.snd.fst z_4.snd.fst.snd.snd.snd.fst.snd.snd.snd.fst, 0, ()) else none
/-- coterie/coterieref13.Same -/
def g_ref13_Same : Record × Record × Unit → Option (Bool × Unit)
  | (a, b, _) => bif decide (a.Epoch = b.Epoch) then bif decide (a.Fresh = b.Fresh) then bif decide (a.Leaves = b.Leaves) then some (decide (a.Joins = b.Joins), ()) else some (false, ()) else some (false, ()) else some (false, ())
/-- coterie/coterieref13.Of -/
def g_ref13_Of : Tree × Batch × Unit → Option (Record × Int × Unit)
  | (a, b, _) => bif !decide ((nextR a b).snd.snd = 0) then some (Record.mk 0 0 [] [], (nextR a b).snd.snd, ()) else some (Record.mk (nextR a b).fst.Epoch (nextR a b).fst.Fresh b.Leaves (nextR a b).snd.fst.Joins, 0, ())
/-- coterie/record.Of -/
def g_record_Of : Tree × Batch × Unit → Option (Record × Int × Unit)
  | (a, b, _) => bif !decide ((nextR a b).snd.snd = 0) then some (Record.mk 0 0 [] [], (nextR a b).snd.snd, ()) else some (Record.mk (nextR a b).fst.Epoch (nextR a b).fst.Fresh b.Leaves (nextR a b).snd.fst.Joins, 0, ())
end Go.Co.N
end
end

section
namespace Go.Co.N
open Go Go.Co

theorem lat_end {d : List Int} {x : Int} : lat (d ++ [x]) (d.length : Int) = x := by
  unfold lat
  simp [List.getD]
theorem lput_end {d : List Int} {x y : Int} : lput (d ++ [x]) (d.length : Int) y = d ++ [y] := by
  unfold lput
  simp
def wS (V left : Nat) (bs : List Bool) : (Unit × Int × Int × Unit) × ((Ctr × List Int × Unit) × Unit) × Unit := (((), (V : Int), (left : Int), ()), ((Ctr.mk (bs.length : Int), packB bs, ()), ()), ())
def wZ (bs : List Bool) : Unit × ((Ctr × List Int × Unit) × Unit) × Unit := ((), ((Ctr.mk (bs.length : Int), packB bs, ()), ()), ())
def roomN (N : Nat) : Nat := 8 - N % 8
def cutN (N left : Nat) : Nat := min (roomN N) left
theorem putStep (V left : Nat) (bs : List Bool) (hV : V < 18446744073709551616) (h0 : 0 < left) (h64 : left ≤ 64) (hb : bs.length ≤ 1000000) :
    g_record_Write_r2 (wS V left bs) = some (.inl (wS V (left - cutN bs.length left) (bs ++ bitsN (cutN bs.length left) (V / 2 ^ (left - cutN bs.length left))))) := by
  generalize hN : bs.length = N at *
  generalize hn : cutN N left = n
  have hnf : n ≤ roomN N := by rw [← hn]; exact Nat.min_le_left _ _
  have hnl : n ≤ left := by rw [← hn]; exact Nat.min_le_right _ _
  have hf8 : roomN N ≤ 8 := by unfold roomN; omega
  have hf1 : 1 ≤ roomN N := by unfold roomN; omega
  have hn1 : 1 ≤ n := by rw [← hn]; unfold cutN; omega
  have e1 : IntKind.i64.wrap (8 - bw BinOp.and IntKind.i64 (N : Int) 7) = ((roomN N : Nat) : Int) := by
    rw [and7 N (by omega), i64_in _ (by omega)]; unfold roomN; omega
  have e2 : min ((roomN N : Nat) : Int) (left : Int) = (n : Int) := by rw [← hn]; unfold cutN; omega
  have e3 : IntKind.i64.wrap ((left : Int) - (n : Int)) = ((left - n : Nat) : Int) := by rw [i64_in _ (by omega)]; omega
  have e4 : IntKind.u64.wrap ((left - n : Nat) : Int) = ((left - n : Nat) : Int) := u64N _ (by omega)
  have e5 : shrI IntKind.u64 (V : Int) ((left - n : Nat) : Int) = ((V / 2 ^ (left - n) : Nat) : Int) := shrN _ _ _ (by simp [IntKind.bits]; omega)
  have e6 : IntKind.u64.wrap (n : Int) = (n : Int) := u64N _ (by omega)
  have e7 := mask8 n (by omega)
  have e8 : IntKind.i64.wrap (((roomN N : Nat) : Int) - (n : Int)) = ((roomN N - n : Nat) : Int) := by rw [i64_in _ (by omega)]; omega
  have e9 : IntKind.u64.wrap ((roomN N - n : Nat) : Int) = ((roomN N - n : Nat) : Int) := u64N _ (by omega)
  have hp : 2 ^ n ≤ 256 := by
    have : 2 ^ n ≤ 2 ^ 8 := Nat.pow_le_pow_right (by omega) (by omega)
    simpa using this
  have hp0 : 0 < 2 ^ n := Nat.two_pow_pos n
  generalize hc : bitsN n (V / 2 ^ (left - n)) = c
  have hcl : c.length = n := by rw [← hc]; exact len_bitsN _ _
  have hcv : valB c = V / 2 ^ (left - n) % 2 ^ n := by rw [← hc]; exact valB_bitsN _ _
  have hcv2 : valB c < 2 ^ n := by rw [hcv]; exact Nat.mod_lt _ hp0
  have e10 : bw BinOp.and IntKind.u8 (IntKind.u8.wrap ((V / 2 ^ (left - n) : Nat) : Int)) ((2 ^ n - 1 : Nat) : Int) = ((valB c : Nat) : Int) := by
    rw [u8N, and8 _ _ (by omega) (by omega), and_mask, hcv]
    congr 1
    have : (256 : Nat) = 2 ^ n * 2 ^ (8 - n) := by rw [← Nat.pow_add, show n + (8 - n) = 8 by omega]
    rw [this, Nat.mod_mul_right_mod]
  have hsh : valB c * 2 ^ (roomN N - n) < 256 := by
    calc valB c * 2 ^ (roomN N - n) < 2 ^ n * 2 ^ (roomN N - n) := Nat.mul_lt_mul_of_pos_right hcv2 (Nat.two_pow_pos _)
      _ = 2 ^ roomN N := by rw [← Nat.pow_add]; congr 1; omega
      _ ≤ 2 ^ 8 := Nat.pow_le_pow_right (by omega) hf8
  have e11 : shlI IntKind.u8 ((valB c : Nat) : Int) ((roomN N - n : Nat) : Int) = ((valB c * 2 ^ (roomN N - n) : Nat) : Int) := shl8 _ _ hsh (by omega)
  have e12 : IntKind.i64.wrap ((N : Int) + (n : Int)) = ((bs ++ c).length : Int) := by rw [List.length_append, hN, hcl, i64_in _ (by omega)]; omega
  have hlt : decide ((0 : Int) < (left : Int)) = true := by simp; omega
  have hpl : (packB bs).length ≤ 125000 := by rw [len_packB, hN]; omega
  simp only [wS, hN, g_record_Write_r2, hlt, cond_true, e1, e2, e3, e4, e5, e6, e7, e8, e9, e10, e11, e12]
  by_cases h8 : N % 8 = 0
  · have hfr : roomN N = 8 := by unfold roomN; omega
    have hd : decide (((roomN N : Nat) : Int) = 8) = true := by rw [hfr]; rfl
    have hl1 : ((packB bs).append [0]).length = (packB bs).length + 1 := by simp
    have e13 : IntKind.i64.wrap ((((packB bs).append [0]).length : Int) - 1) = ((packB bs).length : Int) := by rw [hl1, i64_in _ (by omega)]; omega
    have hd2 : decide (((packB bs).length + 1) * 1 ≤ 140737488355328) = true := by simp; omega
    have hd3 : (decide (0 ≤ ((packB bs).length : Int)) && decide (((packB bs).length : Int) < (((packB bs).append [0]).length : Int))) = true := by rw [hl1]; simp; omega
    have e14 : lat ((packB bs).append [0]) ((packB bs).length : Int) = 0 := lat_end
    have e15 : bw BinOp.or IntKind.u8 0 ((valB c * 2 ^ (roomN N - n) : Nat) : Int) = ((byteB c : Nat) : Int) := by
      have := or8 0 _ (by omega) hsh
      rw [show ((0 : Nat) : Int) = 0 from rfl] at this
      rw [this, Nat.zero_or, hfr, byteB, hcl]
    have e16 : lput ((packB bs).append [0]) ((packB bs).length : Int) ((byteB c : Nat) : Int) = packB (bs ++ c) := by
      rw [packB_step (by rw [hN]; exact h8) (by omega) (by omega)]
      exact lput_end
    simp only [hd, hd2, e13, hd3, cond_true, e14, e15, e16]
  · have hd : decide (((roomN N : Nat) : Int) = 8) = false := by simp; unfold roomN; omega
    obtain ⟨l0, e, hbs, hl0, hel⟩ := split8 bs
    rw [hN] at hl0 hel
    obtain ⟨k1, k2⟩ := packB_more (c := c) hl0 (d := e) (by omega) (by rw [hel, hcl]; unfold roomN at hnf; omega)
    rw [← hbs] at k1 k2
    have hl1 : (packB bs).length = (packB l0).length + 1 := by rw [k1]; simp
    have e13 : IntKind.i64.wrap (((packB bs).length : Int) - 1) = ((packB l0).length : Int) := by rw [i64_in _ (by omega)]; omega
    have hd3 : (decide (0 ≤ ((packB l0).length : Int)) && decide (((packB l0).length : Int) < ((packB bs).length : Int))) = true := by simp; omega
    have e14 : lat (packB bs) ((packB l0).length : Int) = (byteB e : Int) := by rw [k1]; exact lat_end
    have hfr : roomN N - n = 8 - e.length - c.length := by rw [hel, hcl]; rfl
    have e15 : bw BinOp.or IntKind.u8 (byteB e : Int) ((valB c * 2 ^ (roomN N - n) : Nat) : Int) = ((byteB (e ++ c) : Nat) : Int) := by
      rw [or8 _ _ (byteB_lt (by omega)) hsh, hfr, byteB_or (by unfold roomN at hnf; omega)]
    have e16 : lput (packB bs) ((packB l0).length : Int) ((byteB (e ++ c) : Nat) : Int) = packB (bs ++ c) := by
      rw [k2, k1]; exact lput_end
    simp only [hd, cond_false, e13, hd3, cond_true, e14, e15, e16]
theorem putL : ∀ (k left : Nat) (V : Nat) (bs : List Bool), left ≤ k → V < 18446744073709551616 → left ≤ 64 → bs.length + left ≤ 1000000 → lfp g_record_Write_r2 (wS V left bs) = some (wZ (bs ++ bitsN left V))
  | _, 0, V, bs, _, _, _, _ => lfp_inr (by simp [g_record_Write_r2, wS, wZ, bitsN_zero])
  | 0, left + 1, _, _, h, _, _, _ => by omega
  | k + 1, left + 1, V, bs, h, hV, h64, hb => by
    have hn1 : 1 ≤ cutN bs.length (left + 1) := by unfold cutN roomN; omega
    have hnl : cutN bs.length (left + 1) ≤ left + 1 := Nat.min_le_right _ _
    rw [lfp_inl (putStep V (left + 1) bs hV (by omega) h64 (by omega)), putL k _ V _ (by omega) hV (by omega) (by rw [List.length_append, len_bitsN]; omega)]
    congr 2
    have := bitsN_add (cutN bs.length (left + 1)) (left + 1 - cutN bs.length (left + 1)) V
    rw [show cutN bs.length (left + 1) + (left + 1 - cutN bs.length (left + 1)) = left + 1 by omega, Nat.shiftRight_eq_div_pow] at this
    rw [this, List.append_assoc]
/-- A field that fits is put. -/
theorem put_ok (V w : Nat) (bs : List Bool) (hV : V < 2 ^ w) (h1 : 1 ≤ w) (h64 : w ≤ 64) (hb : bs.length + w ≤ 1000000) :
    once g_record_Write_o1 (((), (V : Int), (w : Int), ()), ((Ctr.mk (bs.length : Int), packB bs, ()), ()), ()) = some ((0, ()), ((Ctr.mk ((bs ++ bitsN w V).length : Int), packB (bs ++ bitsN w V), ()), ()), ()) := by
  have hV2 : V < 18446744073709551616 := Nat.lt_of_lt_of_le hV (by have : 2 ^ w ≤ 2 ^ 64 := Nat.pow_le_pow_right (by omega) h64; simpa using this)
  have hfit : fitW (V : Int) (w : Int) = true := by
    have h3 : (V : Int) < 2 ^ w := by
      have : ((V : Nat) : Int) < ((2 ^ w : Nat) : Int) := by omega
      simpa using this
    unfold fitW
    simp [h3]
    omega
  have hl := putL w w V bs (Nat.le_refl _) hV2 h64 hb
  unfold wS at hl
  unfold once
  simp only [g_record_Write_o1, hfit, Bool.not_true, cond_false, hl, Option.bind_some]
  rfl
end Go.Co.N
end

section
namespace Go.Co.N
open Go Go.Co

/-- The writer that holds these bits. -/
def wst (bs : List Bool) : Ctr × List Int × Unit := (Ctr.mk (bs.length : Int), packB bs, ())
theorem put_int (v : Int) (w : Nat) (bs : List Bool) (h0 : 0 ≤ v) (hV : v < 2 ^ w) (h1 : 1 ≤ w) (h64 : w ≤ 63) (hb : bs.length + w ≤ 1000000) :
    once g_record_Write_o1 (((), IntKind.wrap IntKind.u64 v, (w : Int), ()), (wst bs, ()), ()) = some ((0, ()), (wst (bs ++ bitsN w v.toNat), ()), ()) := by
  obtain ⟨n, rfl⟩ := Int.eq_ofNat_of_zero_le h0
  have h3 : n < 2 ^ w := by
    have : ((n : Nat) : Int) < ((2 ^ w : Nat) : Int) := by simpa using hV
    omega
  have h4 : 2 ^ w ≤ 2 ^ 63 := Nat.pow_le_pow_right (by omega) h64
  rw [u64N n (by omega)]
  exact put_ok n w bs h3 h1 (by omega) hb
def leavesB (l : List Int) : List Bool := l.flatMap fun w => bitsN 8 w.toNat
def joinsB (l : List Seat) : List Bool := l.flatMap fun s => bitsN 8 s.Who.toNat ++ bitsN 6 s.Slot.toNat
theorem take_at {α : Type} [Inhabited α] (l : List α) (i : Nat) (h : i < l.length) : l.take (i + 1) = l.take i ++ [lat l (i : Int)] := by
  rw [lat_nat l i h, List.take_add_one, List.getElem?_eq_getElem h]; rfl
theorem leaves_at (l : List Int) (i : Nat) (h : i < l.length) : leavesB (l.take (i + 1)) = leavesB (l.take i) ++ bitsN 8 (lat l (i : Int)).toNat := by
  unfold leavesB; rw [take_at l i h, List.flatMap_append]; simp
theorem joins_at (l : List Seat) (i : Nat) (h : i < l.length) : joinsB (l.take (i + 1)) = joinsB (l.take i) ++ (bitsN 8 (lat l (i : Int)).Who.toNat ++ bitsN 6 (lat l (i : Int)).Slot.toNat) := by
  unfold joinsB; rw [take_at l i h, List.flatMap_append]; simp
theorem len_leavesB (l : List Int) : (leavesB l).length = 8 * l.length := by
  induction l with
  | nil => rfl
  | cons a l ih => unfold leavesB at *; rw [List.flatMap_cons, List.length_append, ih, len_bitsN, List.length_cons]; omega
theorem len_joinsB (l : List Seat) : (joinsB l).length = 14 * l.length := by
  induction l with
  | nil => rfl
  | cons a l ih => unfold joinsB at *; rw [List.flatMap_cons, List.length_append, ih, List.length_append, len_bitsN, len_bitsN, List.length_cons]; omega
theorem write_leaves (l : List Int) (bs : List Bool) (hl : l.length ≤ 64) (hg : ∀ w ∈ l, 0 ≤ w ∧ w ≤ 255) (hb : bs.length ≤ 10000) :
    lfp g_record_Write_r7 (((), (), (), l, (l.length : Int), 0, ()), (wst bs, (), ()), ()) = some (((), (), (), ()), (wst (bs ++ leavesB l), (), ()), ()) := by
  rw [lfp_run' (fun i => (((), (), (), l, (l.length : Int), (i : Int), ()), (wst (bs ++ leavesB (l.take i)), (), ()), ())) l.length (by simp [leavesB]) (fun j hj => by
    have h1 : decide ((j : Int) < (l.length : Int)) = true := by simp; omega
    have h2 : (decide (0 ≤ (j : Int)) && decide ((j : Int) < (l.length : Int))) = true := by simp; omega
    have hm : lat l (j : Int) ∈ l := by rw [lat_nat l j hj]; exact List.getElem_mem hj
    have hw := hg _ hm
    have hp := put_int (lat l (j : Int)) 8 (bs ++ leavesB (l.take j)) hw.1 (by omega) (by omega) (by omega) (by
      have := len_leavesB (l.take j)
      rw [List.length_append, this, List.length_take]; omega)
    show g_record_Write_r7 (((), (), (), l, (l.length : Int), (j : Int), ()), (((wst (bs ++ leavesB (l.take j))).1, (wst (bs ++ leavesB (l.take j))).2.1, ()), (), ()), ()) = _
    have hp' : once g_record_Write_o1 (((), IntKind.wrap IntKind.u64 (lat l (j : Int)), 8, ()), (((wst (bs ++ leavesB (l.take j))).1, (wst (bs ++ leavesB (l.take j))).2.1, ()), ()), ()) = _ := hp
    simp only [g_record_Write_r7, h1, h2, cond_true, hp', Option.bind_some, wrap1 j (by omega)]
    rw [leaves_at l j hj, List.append_assoc]
    rfl)]
  refine lfp_inr ?_
  simp only [List.take_length]
  show g_record_Write_r7 (((), (), (), l, (l.length : Int), (l.length : Int), ()), (((wst (bs ++ leavesB l)).1, (wst (bs ++ leavesB l)).2.1, ()), (), ()), ()) = _
  simp only [g_record_Write_r7, Int.lt_irrefl, decide_false, cond_false]
theorem write_joins (l : List Seat) (bs : List Bool) (hl : l.length ≤ 64) (hg : ∀ s ∈ l, (0 ≤ s.Who ∧ s.Who ≤ 255) ∧ 0 ≤ s.Slot ∧ s.Slot ≤ 63) (hb : bs.length ≤ 10000) :
    lfp g_record_Write_r12 (((), (), l, (l.length : Int), 0, ()), (wst bs, (), ()), ()) = some (((), ()), (wst (bs ++ joinsB l), (), ()), ()) := by
  rw [lfp_run' (fun i => (((), (), l, (l.length : Int), (i : Int), ()), (wst (bs ++ joinsB (l.take i)), (), ()), ())) l.length (by simp [joinsB]) (fun j hj => by
    have h1 : decide ((j : Int) < (l.length : Int)) = true := by simp; omega
    have h2 : (decide (0 ≤ (j : Int)) && decide ((j : Int) < (l.length : Int))) = true := by simp; omega
    have hm : lat l (j : Int) ∈ l := by rw [lat_nat l j hj]; exact List.getElem_mem hj
    obtain ⟨hw, hs⟩ := hg _ hm
    have hlen : (bs ++ joinsB (l.take j)).length ≤ 11000 := by
      have := len_joinsB (l.take j)
      rw [List.length_append, this, List.length_take]; omega
    have hp := put_int (lat l (j : Int)).Who 8 (bs ++ joinsB (l.take j)) hw.1 (by omega) (by omega) (by omega) (by omega)
    have hq := put_int (lat l (j : Int)).Slot 6 ((bs ++ joinsB (l.take j)) ++ bitsN 8 (lat l (j : Int)).Who.toNat) hs.1 (by omega) (by omega) (by omega) (by rw [List.length_append, len_bitsN]; omega)
    show g_record_Write_r12 (((), (), l, (l.length : Int), (j : Int), ()), (((wst (bs ++ joinsB (l.take j))).1, (wst (bs ++ joinsB (l.take j))).2.1, ()), (), ()), ()) = _
    have hp' : once g_record_Write_o1 (((), IntKind.wrap IntKind.u64 (lat l (j : Int)).Who, 8, ()), (((wst (bs ++ joinsB (l.take j))).1, (wst (bs ++ joinsB (l.take j))).2.1, ()), ()), ()) = _ := hp
    generalize hbs : (bs ++ joinsB (l.take j)) ++ bitsN 8 (lat l (j : Int)).Who.toNat = b2 at *
    have hq' : once g_record_Write_o1 (((), IntKind.wrap IntKind.u64 (lat l (j : Int)).Slot, 6, ()), (((wst b2).1, (wst b2).2.1, ()), ()), ()) = _ := hq
    simp only [g_record_Write_r12, h1, h2, cond_true, hp', Option.bind_some, hq', wrap1 j (by omega)]
    rw [joins_at l j hj, ← List.append_assoc, ← List.append_assoc, hbs]
    rfl)]
  refine lfp_inr ?_
  simp only [List.take_length]
  show g_record_Write_r12 (((), (), l, (l.length : Int), (l.length : Int), ()), (((wst (bs ++ joinsB l)).1, (wst (bs ++ joinsB l)).2.1, ()), (), ()), ()) = _
  simp only [g_record_Write_r12, Int.lt_irrefl, decide_false, cond_false]
structure GoodRec (r : Record) : Prop where
  epoch : 1 ≤ r.Epoch ∧ r.Epoch ≤ 200
  fresh : 22 ≤ r.Fresh ∧ r.Fresh ≤ 32768
  nl : r.Leaves.length ≤ 64
  nj : r.Joins.length ≤ 64
  leaves : ∀ w ∈ r.Leaves, 0 ≤ w ∧ w ≤ 255
  joins : ∀ s ∈ r.Joins, (0 ≤ s.Who ∧ s.Who ≤ 255) ∧ 0 ≤ s.Slot ∧ s.Slot ≤ 63
theorem goodRec_iff {r : Record} : goodRec r = true ↔ GoodRec r := by
  unfold goodRec
  simp only [Bool.and_eq_true, betw_iff, decide_eq_true_eq, List.all_eq_true]
  exact ⟨fun ⟨⟨⟨⟨⟨a, b⟩, c⟩, d⟩, e⟩, f⟩ => ⟨a, b, c, d, e, f⟩, fun ⟨a, b, c, d, e, f⟩ => ⟨⟨⟨⟨⟨a, b⟩, c⟩, d⟩, e⟩, f⟩⟩
theorem recBits_eq (r : Record) : recBits r = ((((bitsN 8 r.Epoch.toNat ++ bitsN 16 r.Fresh.toNat) ++ bitsN 7 r.Leaves.length) ++ leavesB r.Leaves) ++ bitsN 7 r.Joins.length) ++ joinsB r.Joins := by
  unfold recBits leavesB joinsB
  simp only [List.append_assoc]
theorem eq_record_Write : Eqs c_record_Write g_record_Write := Eqs.tot fun (r, _) hf => by
  change Record at r
  show g_record_Write (r, ()) = some ((writeR r).1, (writeR r).2, ())
  unfold writeR
  cases hg : goodRec r with
  | false => simp only [g_record_Write, hg, Bool.not_false, cond_true, cond_false]
  | true =>
    have g := goodRec_iff.1 hg
    have p1 := put_int r.Epoch 8 [] (by have := g.epoch; omega) (by have := g.epoch; omega) (by omega) (by omega) (by simp)
    have p2 := put_int r.Fresh 16 ([] ++ bitsN 8 r.Epoch.toNat) (by have := g.fresh; omega) (by have := g.fresh; omega) (by omega) (by omega) (by simp [len_bitsN])
    have p3 := put_int (r.Leaves.length : Int) 7 (([] ++ bitsN 8 r.Epoch.toNat) ++ bitsN 16 r.Fresh.toNat) (by omega) (by have := g.nl; omega) (by omega) (by omega) (by simp [len_bitsN])
    have p4 := write_leaves r.Leaves ((([] ++ bitsN 8 r.Epoch.toNat) ++ bitsN 16 r.Fresh.toNat) ++ bitsN 7 (r.Leaves.length : Int).toNat) g.nl g.leaves (by simp [len_bitsN])
    have p5 := put_int (r.Joins.length : Int) 7 (((([] ++ bitsN 8 r.Epoch.toNat) ++ bitsN 16 r.Fresh.toNat) ++ bitsN 7 (r.Leaves.length : Int).toNat) ++ leavesB r.Leaves) (by omega) (by have := g.nj; omega) (by omega) (by omega) (by
      simp only [List.length_append, len_bitsN, len_leavesB, List.length_nil]; have := g.nl; omega)
    have p6 := write_joins r.Joins ((((([] ++ bitsN 8 r.Epoch.toNat) ++ bitsN 16 r.Fresh.toNat) ++ bitsN 7 (r.Leaves.length : Int).toNat) ++ leavesB r.Leaves) ++ bitsN 7 (r.Joins.length : Int).toNat) g.nj g.joins (by
      simp only [List.length_append, len_bitsN, len_leavesB, List.length_nil]; have := g.nl; omega)
    have hz : ((St.zero St.counter, [], ()) : Ctr × List Int × Unit) = wst [] := rfl
    simp only [g_record_Write, hg, Bool.not_true, cond_false, cond_true, hz]
    generalize hb1 : ([] : List Bool) ++ bitsN 8 r.Epoch.toNat = b1 at *
    generalize hb2 : b1 ++ bitsN 16 r.Fresh.toNat = b2 at *
    generalize hb3 : b2 ++ bitsN 7 (r.Leaves.length : Int).toNat = b3 at *
    generalize hb4 : b3 ++ leavesB r.Leaves = b4 at *
    generalize hb5 : b4 ++ bitsN 7 (r.Joins.length : Int).toNat = b5 at *
    have q1 : once g_record_Write_o1 (((), IntKind.wrap IntKind.u64 r.Epoch, 8, ()), (wst [], ()), ()) = some ((0, ()), (wst b1, ()), ()) := p1
    have q2 : once g_record_Write_o1 (((), IntKind.wrap IntKind.u64 r.Fresh, 16, ()), (((wst b1).1, (wst b1).2.1, ()), ()), ()) = some ((0, ()), (wst b2, ()), ()) := p2
    have q3 : once g_record_Write_o1 (((), IntKind.wrap IntKind.u64 (r.Leaves.length : Int), 7, ()), (((wst b2).1, (wst b2).2.1, ()), ()), ()) = some ((0, ()), (wst b3, ()), ()) := p3
    have q4 : lfp g_record_Write_r7 (((), (), (), r.Leaves, (r.Leaves.length : Int), 0, ()), (((wst b3).1, (wst b3).2.1, ()), (), ()), ()) = some (((), (), (), ()), (wst b4, (), ()), ()) := p4
    have q5 : once g_record_Write_o1 (((), IntKind.wrap IntKind.u64 (r.Joins.length : Int), 7, ()), (((wst b4).1, (wst b4).2.1, ()), ()), ()) = some ((0, ()), (wst b5, ()), ()) := p5
    have q6 : lfp g_record_Write_r12 (((), (), r.Joins, (r.Joins.length : Int), 0, ()), (((wst b5).1, (wst b5).2.1, ()), (), ()), ()) = some (((), ()), (wst (b5 ++ joinsB r.Joins), (), ()), ()) := p6
    simp only [q1, q2, q3, q4, q5, q6, Option.bind_some]
    have : recBits r = b5 ++ joinsB r.Joins := by
      rw [recBits_eq, ← hb5, ← hb4, ← hb3, ← hb2, ← hb1]
      simp
    rw [this]
    rfl
end Go.Co.N
end

section
namespace Go.Co.N
open Go Go.Co

def rdr (t : ByteArray) (p : Nat) : Rdr := Rdr.mk (Ctr.mk (p : Int)) t
theorem takeStep (t : ByteArray) (p v left : Nat) (hs : t.size ≤ 140737488355328) (h0 : 0 < left) (h64 : left ≤ 64) (hp : p + left ≤ 8 * t.size) (hv : v * 2 ^ left < 18446744073709551616) :
    g_record_Read_r3 (((), (v : Int), (left : Int), ()), (rdr t p, ()), ()) = some (.inl (((), ((v * 2 ^ cutN p left + valB (((bitsT t).drop p).take (cutN p left)) : Nat) : Int), ((left - cutN p left : Nat) : Int), ()), (rdr t (p + cutN p left), ()), ())) := by
  generalize hn : cutN p left = n
  have hnf : n ≤ roomN p := by rw [← hn]; exact Nat.min_le_left _ _
  have hnl : n ≤ left := by rw [← hn]; exact Nat.min_le_right _ _
  have hf8 : roomN p ≤ 8 := by unfold roomN; omega
  have hn1 : 1 ≤ n := by rw [← hn]; unfold cutN roomN; omega
  have e1 : IntKind.i64.wrap (8 - bw BinOp.and IntKind.i64 (p : Int) 7) = ((roomN p : Nat) : Int) := by
    rw [and7 p (by omega), i64_in _ (by omega)]; unfold roomN; omega
  have e2 : min ((roomN p : Nat) : Int) (left : Int) = (n : Int) := by rw [← hn]; unfold cutN; omega
  have e3 : IntKind.i64.wrap ((left : Int) - (n : Int)) = ((left - n : Nat) : Int) := by rw [i64_in _ (by omega)]; omega
  have e6 : IntKind.u64.wrap (n : Int) = (n : Int) := u64N _ (by omega)
  have e7 := mask8 n (by omega)
  have e8 : IntKind.i64.wrap (((roomN p : Nat) : Int) - (n : Int)) = ((roomN p - n : Nat) : Int) := by rw [i64_in _ (by omega)]; omega
  have e9 : IntKind.u64.wrap ((roomN p - n : Nat) : Int) = ((roomN p - n : Nat) : Int) := u64N _ (by omega)
  have e10 : shrI IntKind.i64 (p : Int) 3 = ((p / 8 : Nat) : Int) := shrN .i64 p 3 (by simp [IntKind.bits])
  obtain ⟨hb0, hb1⟩ := bat_lt t ((p / 8 : Nat) : Int)
  have hc := valB_mid t p n (by omega) hnf
  generalize hy : bat t ((p / 8 : Nat) : Int) = y at *
  obtain ⟨y, rfl⟩ := Int.eq_ofNat_of_zero_le hb0
  simp only [Int.toNat_natCast] at hc
  have e11 : shrI IntKind.u8 (y : Int) ((roomN p - n : Nat) : Int) = ((y / 2 ^ (roomN p - n) : Nat) : Int) := shrN _ _ _ (by simp [IntKind.bits]; omega)
  have hy2 : y / 2 ^ (roomN p - n) < 256 := Nat.lt_of_le_of_lt (Nat.div_le_self _ _) (by omega)
  have hpw : 2 ^ n ≤ 256 := by
    have : 2 ^ n ≤ 2 ^ 8 := Nat.pow_le_pow_right (by omega) (by omega)
    simpa using this
  have hp0 : 0 < 2 ^ n := Nat.two_pow_pos n
  have e12 : bw BinOp.and IntKind.u8 ((y / 2 ^ (roomN p - n) : Nat) : Int) ((2 ^ n - 1 : Nat) : Int) = ((valB (((bitsT t).drop p).take n) : Nat) : Int) := by
    rw [and8 _ _ hy2 (by omega), and_mask, hc]; rfl
  have hcl : valB (((bitsT t).drop p).take n) < 2 ^ n := by rw [hc]; exact Nat.mod_lt _ hp0
  generalize valB (((bitsT t).drop p).take n) = c at *
  have e13 : IntKind.u64.wrap (c : Int) = (c : Int) := u64N _ (by omega)
  have hvn : v * 2 ^ n < 18446744073709551616 := Nat.lt_of_le_of_lt (Nat.mul_le_mul_left v (Nat.pow_le_pow_right (by omega) hnl)) hv
  have e14 : shlI IntKind.u64 (v : Int) (n : Int) = ((v * 2 ^ n : Nat) : Int) := shl64 v n hvn (by omega)
  have e15 : bw BinOp.or IntKind.u64 ((v * 2 ^ n : Nat) : Int) (c : Int) = ((v * 2 ^ n + c : Nat) : Int) := by
    rw [or64 _ _ hvn (by omega), Nat.mul_comm v, Nat.two_pow_add_eq_or_of_lt hcl]
  have e16 : IntKind.i64.wrap ((p : Int) + (n : Int)) = ((p + n : Nat) : Int) := by rw [i64_in _ (by omega)]; omega
  have hlt : decide ((0 : Int) < (left : Int)) = true := by simp; omega
  have hbd : (decide (0 ≤ ((p / 8 : Nat) : Int)) && decide (((p / 8 : Nat) : Int) < (t.size : Int))) = true := by simp; omega
  simp only [g_record_Read_r3, rdr, hlt, cond_true, e10, hbd, e1, e2, e3, e6, e7, e8, e9, hy, e11, e12, e13, e14, e15, e16]
theorem takeL : ∀ (k left : Nat) (t : ByteArray) (p v : Nat), left ≤ k → t.size ≤ 140737488355328 → left ≤ 64 → p + left ≤ 8 * t.size → v * 2 ^ left + (2 ^ left - 1) < 18446744073709551616 →
    lfp g_record_Read_r3 (((), (v : Int), (left : Int), ()), (rdr t p, ()), ()) = some ((((v * 2 ^ left + valB (((bitsT t).drop p).take left) : Nat) : Int), ()), (rdr t (p + left), ()), ())
  | _, 0, t, p, v, _, _, _, _, _ => lfp_inr (by simp [g_record_Read_r3, valB])
  | 0, left + 1, _, _, _, h, _, _, _, _ => by omega
  | k + 1, left + 1, t, p, v, h, hs, h64, hp, hv => by
    have hn1 : 1 ≤ cutN p (left + 1) := by unfold cutN roomN; omega
    have hnl : cutN p (left + 1) ≤ left + 1 := Nat.min_le_right _ _
    rw [lfp_inl (takeStep t p v (left + 1) hs (by omega) h64 hp (by omega))]
    generalize cutN p (left + 1) = n at *
    have hl := len_bitsT t
    have hsplit : 2 ^ (left + 1) = 2 ^ n * 2 ^ (left + 1 - n) := by rw [← Nat.pow_add]; congr 1; omega
    have hcl : valB (((bitsT t).drop p).take n) < 2 ^ n := by
      have := valB_lt (((bitsT t).drop p).take n)
      rwa [List.length_take, List.length_drop, show min n ((bitsT t).length - p) = n by omega] at this
    have hfit : (v * 2 ^ n + valB (((bitsT t).drop p).take n)) * 2 ^ (left + 1 - n) + (2 ^ (left + 1 - n) - 1) ≤ v * 2 ^ (left + 1) + (2 ^ (left + 1) - 1) := by
      rw [hsplit, Nat.add_mul, Nat.mul_assoc]
      have h1 : valB (((bitsT t).drop p).take n) + 1 ≤ 2 ^ n := hcl
      have h2 : (valB (((bitsT t).drop p).take n) + 1) * 2 ^ (left + 1 - n) ≤ 2 ^ n * 2 ^ (left + 1 - n) := Nat.mul_le_mul_right _ h1
      rw [Nat.add_mul, Nat.one_mul] at h2
      have h3 : 0 < 2 ^ (left + 1 - n) := Nat.two_pow_pos _
      omega
    rw [takeL k (left + 1 - n) t (p + n) _ (by omega) hs (by omega) (by omega) (by omega)]
    have e : ((bitsT t).drop p).take (left + 1) = ((bitsT t).drop p).take n ++ ((bitsT t).drop (p + n)).take (left + 1 - n) := by
      have := List.take_add (l := (bitsT t).drop p) (i := n) (j := left + 1 - n)
      rw [show n + (left + 1 - n) = left + 1 by omega, List.drop_drop] at this
      exact this
    have hlen : (((bitsT t).drop (p + n)).take (left + 1 - n)).length = left + 1 - n := by rw [List.length_take, List.length_drop]; omega
    rw [e, valB_append, hlen, hsplit, Nat.add_mul, Nat.mul_assoc, show p + n + (left + 1 - n) = p + (left + 1) by omega]
    rw [Nat.add_assoc]
/-- Taking: the number, the place behind it, whether there were too few. -/
theorem take_ok (t : ByteArray) (p w : Nat) (hs : t.size ≤ 140737488355328) (h1 : 1 ≤ w) (h63 : w ≤ 63) (hp : p ≤ 8 * t.size) :
    once g_record_Read_o2 (((), (w : Int), ()), (rdr t p, ()), ()) = some ((((takeB (bitsT t) p w).1 : Int), (bif (takeB (bitsT t) p w).2.2 then 6 else 0), ()), (rdr t (takeB (bitsT t) p w).2.1, ()), ()) := by
  have hl := len_bitsT t
  have d1 : decide ((w : Int) < 1) = false := by simp; omega
  have d2 : decide ((64 : Int) < (w : Int)) = false := by simp; omega
  have e1 : IntKind.i64.wrap (IntKind.i64.wrap (8 * (t.size : Int)) - (p : Int)) = ((8 * t.size - p : Nat) : Int) := by
    rw [i64_in (8 * (t.size : Int)) (by omega), i64_in _ (by omega)]; omega
  have hc : (rdr t p).counter.n = (p : Int) := rfl
  have ht : (rdr t p).text = t := rfl
  unfold once takeB
  simp only [g_record_Read_o2, d1, d2, cond_false, hc, ht, e1]
  by_cases hf : p + w ≤ 8 * t.size
  · have d3 : decide (((8 * t.size - p : Nat) : Int) < (w : Int)) = false := by simp; omega
    have hpow : 2 ^ w ≤ 2 ^ 63 := Nat.pow_le_pow_right (by omega) h63
    have hL := takeL w w t p 0 (Nat.le_refl _) hs (by omega) hf (by omega)
    rw [show ((0 : Nat) : Int) = 0 from rfl] at hL
    simp only [d3, cond_false, hL, Option.bind_some, Nat.zero_mul, Nat.zero_add]
    rw [if_pos (by omega)]
    rfl
  · have d3 : decide (((8 * t.size - p : Nat) : Int) < (w : Int)) = true := by simp; omega
    simp only [d3, cond_true]
    rw [if_neg (by omega)]
    rfl
theorem takeB_place (B : List Bool) (p w : Nat) (h : p ≤ B.length) : (takeB B p w).2.1 ≤ B.length := by
  unfold takeB
  split
  · assumption
  · exact h
theorem takeB_lt (B : List Bool) (p w : Nat) : (takeB B p w).1 < 2 ^ w := by
  unfold takeB
  split
  · have := valB_lt ((B.drop p).take w)
    rw [List.length_take] at this
    exact Nat.lt_of_lt_of_le this (Nat.pow_le_pow_right (by omega) (Nat.min_le_left _ _))
  · exact Nat.two_pow_pos _
/-- The record's reader takes. -/
theorem take1 (t : ByteArray) (s : RdS) (w : Nat) (hs : t.size ≤ 140737488355328) (h1 : 1 ≤ w) (h63 : w ≤ 62) (hp : s.p ≤ 8 * t.size) :
    once g_record_Read_o1 (((w : Int), (), (), ()), (rdr t s.p, (), s.short, ()), ()) = some ((((takeB (bitsT t) s.p w).1 : Int), ()), (rdr t (s.step (bitsT t) w).p, (), (s.step (bitsT t) w).short, ()), ()) := by
  have hl := takeB_lt (bitsT t) s.p w
  have hpow : 2 ^ w ≤ 2 ^ 62 := Nat.pow_le_pow_right (by omega) h63
  have e1 : IntKind.i64.wrap ((takeB (bitsT t) s.p w).1 : Int) = ((takeB (bitsT t) s.p w).1 : Int) := i64N _ (by omega)
  rw [once]
  simp only [g_record_Read_o1, take_ok t s.p w hs h1 (by omega) hp, Option.bind_some, e1, RdS.step]
  cases s.short <;> cases (takeB (bitsT t) s.p w).2.2 <;> rfl
end Go.Co.N
end

section
namespace Go.Co.N
open Go Go.Co

/-! ### Parsed: the bits that were taken are the record's -/
def Taken (B : List Bool) (s : RdS) (bits : List Bool) : Prop := s.short = false → s.p ≤ B.length ∧ B.take s.p = bits
theorem Taken.step {B : List Bool} {s : RdS} {bits : List Bool} (h : Taken B s bits) (w : Nat) : Taken B (s.step B w) (bits ++ bitsN w (takeB B s.p w).1) := by
  intro hs
  simp only [RdS.step, Bool.or_eq_false_iff] at hs
  obtain ⟨h1, h2⟩ := h hs.1
  have h3 := hs.2
  simp only [RdS.step]
  unfold takeB at h3 ⊢
  by_cases hf : s.p + w ≤ B.length
  · rw [if_pos hf]
    refine ⟨hf, ?_⟩
    rw [List.take_add, h2]
    congr 1
    have := bitsN_valB ((B.drop s.p).take w)
    rw [List.length_take, List.length_drop, show min w (B.length - s.p) = w by omega] at this
    exact this.symm
  · rw [if_neg hf] at h3; cases h3
theorem len_rdLeaves (B : List Bool) : ∀ (n : Nat) (s : RdS), (rdLeaves B n s).1.length = n
  | 0, _ => rfl
  | n + 1, s => by simp only [rdLeaves, List.length_cons, len_rdLeaves B n]
theorem len_rdJoins (B : List Bool) : ∀ (n : Nat) (s : RdS), (rdJoins B n s).1.length = n
  | 0, _ => rfl
  | n + 1, s => by simp only [rdJoins, List.length_cons, len_rdJoins B n]
theorem Taken.leaves {B : List Bool} : ∀ (n : Nat) {s : RdS} {bits : List Bool}, Taken B s bits → Taken B (rdLeaves B n s).2 (bits ++ leavesB (rdLeaves B n s).1)
  | 0, s, bits, h => by simpa [rdLeaves, leavesB] using h
  | n + 1, s, bits, h => by
    have := Taken.leaves n (h.step 8)
    simp only [rdLeaves, leavesB, List.flatMap_cons, Int.toNat_natCast]
    rw [List.append_assoc] at this
    exact this
theorem Taken.joins {B : List Bool} : ∀ (n : Nat) {s : RdS} {bits : List Bool}, Taken B s bits → Taken B (rdJoins B n s).2 (bits ++ joinsB (rdJoins B n s).1)
  | 0, s, bits, h => by simpa [rdJoins, joinsB] using h
  | n + 1, s, bits, h => by
    have := Taken.joins n ((h.step 8).step 6)
    simp only [rdJoins, joinsB, List.flatMap_cons, Int.toNat_natCast]
    rw [List.append_assoc, List.append_assoc] at this
    rw [List.append_assoc]
    exact this
theorem parse_taken (B : List Bool) : Taken B (parseR B).2 (recBits (parseR B).1) := by
  have h0 : Taken B ⟨0, false⟩ [] := fun _ => ⟨Nat.zero_le _, rfl⟩
  have h1 := h0.step 8
  have h2 := h1.step 16
  have h3 := h2.step 7
  have h4 := Taken.leaves (takeB B (RdS.step B (RdS.step B ⟨0, false⟩ 8) 16).p 7).1 h3
  have h5 := h4.step 7
  have h6 := Taken.joins (takeB B (rdLeaves B (takeB B (RdS.step B (RdS.step B ⟨0, false⟩ 8) 16).p 7).1 (RdS.step B (RdS.step B (RdS.step B ⟨0, false⟩ 8) 16) 7)).2.p 7).1 h5
  have e : recBits (parseR B).1 = _ := recBits_eq (parseR B).1
  rw [e]
  simp only [parseR, Int.toNat_natCast, len_rdLeaves, len_rdJoins]
  simpa only [List.nil_append, parseR] using h6

/-! ### A record's bits are parsed to it -/
theorem takeB_at {B pre post : List Bool} {w v : Nat} (hB : B = pre ++ (bitsN w v ++ post)) (hv : v < 2 ^ w) : takeB B pre.length w = (v, pre.length + w, false) := by
  unfold takeB
  have hl : B.length = pre.length + (w + post.length) := by rw [hB, List.length_append, List.length_append, len_bitsN]
  rw [if_pos (by omega)]
  have : (B.drop pre.length).take w = bitsN w v := by rw [hB, List.drop_left, List.take_left' (len_bitsN _ _)]
  rw [this, valB_bitsN, Nat.mod_eq_of_lt hv]
theorem step_at {B pre post : List Bool} {w v : Nat} {s : RdS} (hB : B = pre ++ (bitsN w v ++ post)) (hv : v < 2 ^ w) (hs : s = ⟨pre.length, false⟩) : (takeB B s.p w).1 = v ∧ s.step B w = ⟨(pre ++ bitsN w v).length, false⟩ ∧ B = (pre ++ bitsN w v) ++ post := by
  subst hs
  have := takeB_at hB hv
  refine ⟨by rw [this], ?_, by rw [hB, List.append_assoc]⟩
  unfold RdS.step
  rw [this, List.length_append, len_bitsN]
  rfl
theorem leaves_parsed {B : List Bool} : ∀ (l : List Int) (pre post : List Bool) (s : RdS), (∀ w ∈ l, 0 ≤ w ∧ w ≤ 255) → B = pre ++ (leavesB l ++ post) → s = ⟨pre.length, false⟩ →
    rdLeaves B l.length s = (l, ⟨(pre ++ leavesB l).length, false⟩)
  | [], pre, post, s, _, _, hs => by simp [rdLeaves, leavesB, hs]
  | w :: l, pre, post, s, hg, hB, hs => by
    have hw := hg w (List.mem_cons_self ..)
    have hB' : B = pre ++ (bitsN 8 w.toNat ++ (leavesB l ++ post)) := by rw [hB]; simp [leavesB]
    obtain ⟨h1, h2, h3⟩ := step_at hB' (by omega) hs
    have ih := leaves_parsed l (pre ++ bitsN 8 w.toNat) post (s.step B 8) (fun x hx => hg x (List.mem_cons_of_mem _ hx)) h3 h2
    simp only [List.length_cons, rdLeaves, h1, ih]
    have e : ((w.toNat : Nat) : Int) = w := by omega
    rw [e]
    congr 2
    simp [leavesB]
theorem joins_parsed {B : List Bool} : ∀ (l : List Seat) (pre post : List Bool) (s : RdS), (∀ s ∈ l, (0 ≤ s.Who ∧ s.Who ≤ 255) ∧ 0 ≤ s.Slot ∧ s.Slot ≤ 63) → B = pre ++ (joinsB l ++ post) → s = ⟨pre.length, false⟩ →
    rdJoins B l.length s = (l, ⟨(pre ++ joinsB l).length, false⟩)
  | [], pre, post, s, _, _, hs => by simp [rdJoins, joinsB, hs]
  | x :: l, pre, post, s, hg, hB, hs => by
    obtain ⟨hw, hx⟩ := hg x (List.mem_cons_self ..)
    have hB' : B = pre ++ (bitsN 8 x.Who.toNat ++ (bitsN 6 x.Slot.toNat ++ (joinsB l ++ post))) := by rw [hB]; simp [joinsB]
    obtain ⟨h1, h2, h3⟩ := step_at hB' (by omega) hs
    obtain ⟨k1, k2, k3⟩ := step_at h3 (by omega) h2
    have ih := joins_parsed l ((pre ++ bitsN 8 x.Who.toNat) ++ bitsN 6 x.Slot.toNat) post ((s.step B 8).step B 6) (fun x hx => hg x (List.mem_cons_of_mem _ hx)) k3 k2
    simp only [List.length_cons, rdJoins, h1, k1, ih]
    have e : ((x.Who.toNat : Nat) : Int) = x.Who := by omega
    have e2 : ((x.Slot.toNat : Nat) : Int) = x.Slot := by omega
    rw [e, e2]
    congr 2
    simp [joinsB]
theorem parse_good {r : Record} (g : GoodRec r) (tail : List Bool) : parseR (recBits r ++ tail) = (r, ⟨(recBits r).length, false⟩) := by
  generalize hB : recBits r ++ tail = B
  have h0 : B = [] ++ (bitsN 8 r.Epoch.toNat ++ (bitsN 16 r.Fresh.toNat ++ (bitsN 7 r.Leaves.length ++ (leavesB r.Leaves ++ (bitsN 7 r.Joins.length ++ (joinsB r.Joins ++ tail)))))) := by
    rw [← hB, recBits_eq]; simp
  obtain ⟨a1, a2, a3⟩ := step_at h0 (by have := g.epoch; omega) (s := ⟨0, false⟩) rfl
  obtain ⟨b1, b2, b3⟩ := step_at a3 (by have := g.fresh; omega) a2
  obtain ⟨c1, c2, c3⟩ := step_at b3 (by have := g.nl; omega) b2
  have d := leaves_parsed r.Leaves _ _ _ g.leaves c3 c2
  have c4 : B = ((([] ++ bitsN 8 r.Epoch.toNat) ++ bitsN 16 r.Fresh.toNat) ++ bitsN 7 r.Leaves.length ++ leavesB r.Leaves) ++ (bitsN 7 r.Joins.length ++ (joinsB r.Joins ++ tail)) := by rw [c3]; simp
  obtain ⟨e1, e2, e3⟩ := step_at c4 (by have := g.nj; omega) rfl
  have f := joins_parsed r.Joins _ _ _ g.joins e3 e2
  simp only [parseR, a1, b1, c1, d, e1, f]
  have x1 : ((r.Epoch.toNat : Nat) : Int) = r.Epoch := by have := g.epoch; omega
  have x2 : ((r.Fresh.toNat : Nat) : Int) = r.Fresh := by have := g.fresh; omega
  rw [x1, x2, recBits_eq]
  simp only [List.nil_append]
theorem valB_zero {l : List Bool} : valB l = 0 ↔ ∀ b ∈ l, b = false := by
  constructor
  · intro h
    have : l = List.replicate l.length false := valB_inj (by simp) (by rw [h, valB_false])
    rw [this]
    intro b hb
    exact (List.mem_replicate.1 hb).2
  · intro h
    have : l = List.replicate l.length false := List.eq_replicate_iff.2 ⟨rfl, h⟩
    rw [this, valB_false]
/-- The two readers agree: what was not short and ends in noughts is what would be written so. -/
theorem read_iff (t : ByteArray) (hg : goodRec (parseR (bitsT t)).1 = true) :
    ((parseR (bitsT t)).2.short = false ∧ (bitsT t).length - (parseR (bitsT t)).2.p < 8 ∧ valB ((bitsT t).drop (parseR (bitsT t)).2.p) = 0) ↔ packT (recBits (parseR (bitsT t)).1) = t := by
  have g := goodRec_iff.1 hg
  constructor
  · rintro ⟨h1, h2, h3⟩
    obtain ⟨k1, k2⟩ := parse_taken (bitsT t) h1
    refine (packT_rest (r := (bitsT t).drop (parseR (bitsT t)).2.p) ?_).2 ⟨by rw [List.length_drop]; exact h2, valB_zero.1 h3⟩
    rw [← k2, List.take_append_drop]
  · intro h
    have hb := packT_iff.1 h
    have hp := parse_good g (List.replicate (pad8 (recBits (parseR (bitsT t)).1).length) false)
    rw [← hb] at hp
    generalize hr : (parseR (bitsT t)).1 = r at *
    have hs : (parseR (bitsT t)).2 = ⟨(recBits r).length, false⟩ := by rw [hp]
    rw [hs]
    refine ⟨rfl, ?_, ?_⟩
    · rw [hb, List.length_append, List.length_replicate]; unfold pad8; simp only; omega
    · rw [hb]; simp only [List.drop_left]; exact valB_false _
end Go.Co.N
end

section
namespace Go.Co.N
open Go Go.Co

theorem step_place {t : ByteArray} {s : RdS} {w : Nat} (h : s.p ≤ 8 * t.size) : (s.step (bitsT t) w).p ≤ 8 * t.size := by
  have hl := len_bitsT t
  have := takeB_place (bitsT t) s.p w (by omega)
  simp only [RdS.step]; omega
theorem leaves_place {t : ByteArray} : ∀ (n : Nat) {s : RdS}, s.p ≤ 8 * t.size → (rdLeaves (bitsT t) n s).2.p ≤ 8 * t.size
  | 0, _, h => h
  | n + 1, s, h => leaves_place n (step_place h)
theorem joins_place {t : ByteArray} : ∀ (n : Nat) {s : RdS}, s.p ≤ 8 * t.size → (rdJoins (bitsT t) n s).2.p ≤ 8 * t.size
  | 0, _, h => h
  | n + 1, s, h => joins_place n (step_place (step_place h))
theorem read_leaves (t : ByteArray) (hs : t.size ≤ 140737488355328) (n : Nat) (hn : n ≤ 1000) (ep fr : Int) : ∀ (d i : Nat) (s : RdS) (acc : List Int), i + d = n → acc.length = i → s.p ≤ 8 * t.size →
    lfp g_record_Read_r10 (((), (), (), (), (), (n : Int), (i : Int), ()), (rdr t s.p, (), s.short, (ep, fr, acc, (), ()), ()), ()) =
      some (((), (), (), (), (), ()), (rdr t (rdLeaves (bitsT t) d s).2.p, (), (rdLeaves (bitsT t) d s).2.short, (ep, fr, acc ++ (rdLeaves (bitsT t) d s).1, (), ()), ()), ())
  | 0, i, s, acc, hi, _, _ => lfp_inr (by
      have : i = n := by omega
      subst this
      simp only [g_record_Read_r10, Int.lt_irrefl, decide_false, cond_false, rdLeaves, List.append_nil])
  | d + 1, i, s, acc, hi, ha, hp => by
    have h1 : decide ((i : Int) < (n : Int)) = true := by simp; omega
    have h2 : decide ((acc.length + 1) * 8 ≤ 140737488355328) = true := by simp; omega
    have hk := take1 t s 8 hs (by omega) (by omega) hp
    have hk' : once g_record_Read_o1 ((8, (), (), ()), (rdr t s.p, (), s.short, ()), ()) = _ := hk
    have ih := read_leaves t hs n hn ep fr d (i + 1) (s.step (bitsT t) 8) (acc ++ [((takeB (bitsT t) s.p 8).1 : Int)]) (by omega) (by simp [ha]) (step_place hp)
    have e : g_record_Read_r10 (((), (), (), (), (), (n : Int), (i : Int), ()), (rdr t s.p, (), s.short, (ep, fr, acc, (), ()), ()), ()) = some (.inl (((), (), (), (), (), (n : Int), ((i + 1 : Nat) : Int), ()), (rdr t (s.step (bitsT t) 8).p, (), (s.step (bitsT t) 8).short, (ep, fr, acc ++ [((takeB (bitsT t) s.p 8).1 : Int)], (), ()), ()), ())) := by
      simp only [g_record_Read_r10, h1, cond_true, hk', Option.bind_some, h2, wrap1 i (by omega)]
      rfl
    rw [lfp_inl e, ih]
    simp only [rdLeaves, List.append_assoc, List.singleton_append]
theorem read_joins (t : ByteArray) (hs : t.size ≤ 140737488355328) (n : Nat) (hn : n ≤ 1000) (ep fr : Int) : ∀ (d i : Nat) (s : RdS) (acc : List Seat), i + d = n → acc.length = i → s.p ≤ 8 * t.size →
    lfp g_record_Read_r17 (((), (), (), (), (), (n : Int), (i : Int), ()), (rdr t s.p, (), s.short, (ep, fr, (), acc, ()), ()), ()) =
      some (((), (), (), (), ()), (rdr t (rdJoins (bitsT t) d s).2.p, (), (rdJoins (bitsT t) d s).2.short, (ep, fr, (), acc ++ (rdJoins (bitsT t) d s).1, ()), ()), ())
  | 0, i, s, acc, hi, _, _ => lfp_inr (by
      have : i = n := by omega
      subst this
      simp only [g_record_Read_r17, Int.lt_irrefl, decide_false, cond_false, rdJoins, List.append_nil])
  | d + 1, i, s, acc, hi, ha, hp => by
    have h1 : decide ((i : Int) < (n : Int)) = true := by simp; omega
    have h2 : decide ((acc.length + 1) * 16 ≤ 140737488355328) = true := by simp; omega
    have hk := take1 t s 8 hs (by omega) (by omega) hp
    have hk' : once g_record_Read_o1 ((8, (), (), ()), (rdr t s.p, (), s.short, ()), ()) = _ := hk
    have hj := take1 t (s.step (bitsT t) 8) 6 hs (by omega) (by omega) (step_place hp)
    have hj' : once g_record_Read_o1 ((6, (), (), ()), (rdr t (s.step (bitsT t) 8).p, (), (s.step (bitsT t) 8).short, ()), ()) = _ := hj
    have ih := read_joins t hs n hn ep fr d (i + 1) ((s.step (bitsT t) 8).step (bitsT t) 6) (acc ++ [⟨((takeB (bitsT t) s.p 8).1 : Int), ((takeB (bitsT t) (s.step (bitsT t) 8).p 6).1 : Int)⟩]) (by omega) (by simp [ha]) (step_place (step_place hp))
    have e : g_record_Read_r17 (((), (), (), (), (), (n : Int), (i : Int), ()), (rdr t s.p, (), s.short, (ep, fr, (), acc, ()), ()), ()) = some (.inl (((), (), (), (), (), (n : Int), ((i + 1 : Nat) : Int), ()), (rdr t ((s.step (bitsT t) 8).step (bitsT t) 6).p, (), ((s.step (bitsT t) 8).step (bitsT t) 6).short, (ep, fr, (), acc ++ [⟨((takeB (bitsT t) s.p 8).1 : Int), ((takeB (bitsT t) (s.step (bitsT t) 8).p 6).1 : Int)⟩], ()), ()), ())) := by
      simp only [g_record_Read_r17, h1, cond_true, hk', hj', Option.bind_some, h2, wrap1 i (by omega)]
      rfl
    rw [lfp_inl e, ih]
    simp only [rdJoins, List.append_assoc, List.singleton_append]
/-- What is left is noughts. -/
theorem rest_nought (t : ByteArray) (p : Nat) (hs : t.size ≤ 140737488355328) (h0 : p < 8 * t.size) (h8 : 8 * t.size - p < 8) :
    bw BinOp.and IntKind.u8 (bat t (IntKind.i64.wrap ((t.size : Int) - 1))) (IntKind.u8.wrap (shlI IntKind.u8 1 (IntKind.u64.wrap ((8 * t.size - p : Nat) : Int)) - 1)) = ((valB ((bitsT t).drop p) : Nat) : Int) := by
  have hl := len_bitsT t
  have e1 : IntKind.i64.wrap ((t.size : Int) - 1) = ((p / 8 : Nat) : Int) := by rw [i64_in _ (by omega)]; omega
  have e2 : IntKind.u64.wrap ((8 * t.size - p : Nat) : Int) = ((8 * t.size - p : Nat) : Int) := u64N _ (by omega)
  rw [e1, e2, mask8 _ (by omega)]
  obtain ⟨hb0, hb1⟩ := bat_lt t ((p / 8 : Nat) : Int)
  have hm := valB_mid t p (8 * t.size - p) h0 (by omega)
  rw [List.take_of_length_le (by rw [List.length_drop]; omega), show 8 - p % 8 - (8 * t.size - p) = 0 by omega, Nat.pow_zero, Nat.div_one] at hm
  generalize bat t ((p / 8 : Nat) : Int) = y at *
  obtain ⟨y, rfl⟩ := Int.eq_ofNat_of_zero_le hb0
  have hpw : 2 ^ (8 * t.size - p) ≤ 2 ^ 8 := Nat.pow_le_pow_right (by omega) (by omega)
  have hp0 : 0 < 2 ^ (8 * t.size - p) := Nat.two_pow_pos _
  rw [and8 _ _ (by omega) (by omega), and_mask, hm]
  rfl
theorem eq_record_Read : Eqs c_record_Read g_record_Read := fun (t, _) y hf h => by
  change ByteArray at t
  obtain ⟨hs, h⟩ := guardK_some h
  have hs : t.size ≤ 140737488355328 := of_decide_eq_true hs
  have hl := len_bitsT t
  cases h
  show g_record_Read (t, ()) = some ((readR t).1, (readR t).2, ())
  have z0 : (RdS.mk 0 false).p ≤ 8 * t.size := Nat.zero_le _
  have p1 := take1 t ⟨0, false⟩ 8 hs (by omega) (by omega) z0
  have p2 := take1 t ((RdS.mk 0 false).step (bitsT t) 8) 16 hs (by omega) (by omega) (step_place z0)
  have p3 := take1 t (((RdS.mk 0 false).step (bitsT t) 8).step (bitsT t) 16) 7 hs (by omega) (by omega) (step_place (step_place z0))
  generalize hv1 : (takeB (bitsT t) (RdS.mk 0 false).p 8).1 = v1 at *
  generalize hs1 : (RdS.mk 0 false).step (bitsT t) 8 = s1 at *
  generalize hv2 : (takeB (bitsT t) s1.p 16).1 = v2 at *
  generalize hs2 : s1.step (bitsT t) 16 = s2 at *
  have hn3 := takeB_lt (bitsT t) s2.p 7
  generalize hv3 : (takeB (bitsT t) s2.p 7).1 = v3 at *
  have k1 : s1.p ≤ 8 * t.size := by rw [← hs1]; exact step_place z0
  have k2 : s2.p ≤ 8 * t.size := by rw [← hs2]; exact step_place k1
  have k3 : (s2.step (bitsT t) 7).p ≤ 8 * t.size := step_place k2
  generalize hs3 : s2.step (bitsT t) 7 = s3 at *
  have p4 := read_leaves t hs v3 (by omega) (v1 : Int) (v2 : Int) v3 0 s3 [] (by omega) rfl k3
  have k4 := leaves_place v3 k3
  have p5 := take1 t (rdLeaves (bitsT t) v3 s3).2 7 hs (by omega) (by omega) k4
  generalize hs4 : (rdLeaves (bitsT t) v3 s3) = L at *
  have hn5 := takeB_lt (bitsT t) L.2.p 7
  generalize hv5 : (takeB (bitsT t) L.2.p 7).1 = v5 at *
  have k5 : (L.2.step (bitsT t) 7).p ≤ 8 * t.size := step_place k4
  generalize hs5 : L.2.step (bitsT t) 7 = s5 at *
  have p6 := read_joins t hs v5 (by omega) (v1 : Int) (v2 : Int) v5 0 s5 [] (by omega) rfl k5
  have k6 := joins_place v5 k5
  have hparse : parseR (bitsT t) = (⟨(v1 : Int), (v2 : Int), L.1, (rdJoins (bitsT t) v5 s5).1⟩, (rdJoins (bitsT t) v5 s5).2) := by
    have hv1' : (takeB (bitsT t) 0 8).1 = v1 := hv1
    simp only [parseR, hs1, hv1', hs2, hv2, hv3, hs3, hs4, hv5, hs5]
  generalize hs6 : (rdJoins (bitsT t) v5 s5) = J at *
  have hz : Rdr.mk (St.zero St.counter) t = rdr t (RdS.mk 0 false).p := rfl
  have q1 : once g_record_Read_o1 ((8, (), (), ()), (rdr t (RdS.mk 0 false).p, (), false, ()), ()) = some (((v1 : Int), ()), (rdr t s1.p, (), s1.short, ()), ()) := p1
  have q2 : once g_record_Read_o1 ((16, (), (), ()), (rdr t s1.p, (), s1.short, ()), ()) = some (((v2 : Int), ()), (rdr t s2.p, (), s2.short, ()), ()) := p2
  have q3 : once g_record_Read_o1 ((7, (), (), ()), (rdr t s2.p, (), s2.short, ()), ()) = some (((v3 : Int), ()), (rdr t s3.p, (), s3.short, ()), ()) := p3
  have q4 : lfp g_record_Read_r10 (((), (), (), (), (), (v3 : Int), 0, ()), (rdr t s3.p, (), s3.short, ((v1 : Int), (v2 : Int), [], (), ()), ()), ()) = some (((), (), (), (), (), ()), (rdr t L.2.p, (), L.2.short, ((v1 : Int), (v2 : Int), L.1, (), ()), ()), ()) := p4
  have q5 : once g_record_Read_o1 ((7, (), (), ()), (rdr t L.2.p, (), L.2.short, ()), ()) = some (((v5 : Int), ()), (rdr t s5.p, (), s5.short, ()), ()) := p5
  have q6 : lfp g_record_Read_r17 (((), (), (), (), (), (v5 : Int), 0, ()), (rdr t s5.p, (), s5.short, ((v1 : Int), (v2 : Int), (), [], ()), ()), ()) = some (((), (), (), (), ()), (rdr t J.2.p, (), J.2.short, ((v1 : Int), (v2 : Int), (), J.1, ()), ()), ()) := p6
  have hc : (rdr t J.2.p).counter.n = (J.2.p : Int) := rfl
  have ht : (rdr t J.2.p).text = t := rfl
  have e1 : IntKind.i64.wrap (IntKind.i64.wrap (8 * (t.size : Int)) - (J.2.p : Int)) = ((8 * t.size - J.2.p : Nat) : Int) := by
    rw [i64_in (8 * (t.size : Int)) (by omega), i64_in _ (by omega)]; omega
  have hR : (parseR (bitsT t)).1 = ⟨(v1 : Int), (v2 : Int), L.1, J.1⟩ := by rw [hparse]
  have hS : (parseR (bitsT t)).2 = J.2 := by rw [hparse]
  have hri := read_iff t
  rw [hS, hR, hl] at hri
  simp only [g_record_Read, hz, q1, q2, q3, q4, q5, q6, Option.bind_some, hc, ht, e1]
  unfold readR
  rw [hR]
  generalize hrec : Record.mk (v1 : Int) (v2 : Int) L.1 J.1 = r at *
  cases hg : goodRec r with
  | false =>
    cases hsh : J.2.short with
    | true => rfl
    | false =>
      by_cases h8 : 8 ≤ 8 * t.size - J.2.p
      · have d1 : decide ((8 : Int) ≤ ((8 * t.size - J.2.p : Nat) : Int)) = true := by simp; omega
        simp only [d1, cond_true, cond_false, Bool.false_and]
      · have d1 : decide ((8 : Int) ≤ ((8 * t.size - J.2.p : Nat) : Int)) = false := by simp; omega
        by_cases hz0 : 8 * t.size - J.2.p = 0
        · have d2 : decide (((8 * t.size - J.2.p : Nat) : Int) = 0) = true := by rw [hz0]; rfl
          simp only [d1, d2, cond_true, cond_false, Bool.false_and, Bool.not_false]
        · have d2 : decide (((8 * t.size - J.2.p : Nat) : Int) = 0) = false := by simp; omega
          have d3 : (decide (0 ≤ IntKind.i64.wrap ((t.size : Int) - 1)) && decide (IntKind.i64.wrap ((t.size : Int) - 1) < (t.size : Int))) = true := by rw [i64_in _ (by omega)]; simp; omega
          simp only [d1, d2, d3, cond_true, cond_false, Bool.false_and, Bool.not_false, rest_nought t J.2.p hs (by omega) (by omega)]
          cases decide (((valB ((bitsT t).drop J.2.p) : Nat) : Int) = 0) <;> rfl
  | true =>
    have hri := hri hg
    cases hsh : J.2.short with
    | true =>
      have : decide (packT (recBits r) = t) = false := by
        rw [decide_eq_false_iff_not, ← hri, hsh]; simp
      rw [this]; rfl
    | false =>
      rw [hsh] at hri
      by_cases h8 : 8 ≤ 8 * t.size - J.2.p
      · have d1 : decide ((8 : Int) ≤ ((8 * t.size - J.2.p : Nat) : Int)) = true := by simp; omega
        have : decide (packT (recBits r) = t) = false := by
          rw [decide_eq_false_iff_not, ← hri]; omega
        simp only [d1, cond_true, cond_false, this, Bool.and_false]
      · have d1 : decide ((8 : Int) ≤ ((8 * t.size - J.2.p : Nat) : Int)) = false := by simp; omega
        by_cases hz0 : 8 * t.size - J.2.p = 0
        · have d2 : decide (((8 * t.size - J.2.p : Nat) : Int) = 0) = true := by rw [hz0]; rfl
          have hd : (bitsT t).drop J.2.p = [] := List.drop_of_length_le (by omega)
          have : decide (packT (recBits r) = t) = true := by
            rw [decide_eq_true_eq, ← hri, hd]; exact ⟨rfl, by omega, rfl⟩
          simp only [d1, d2, cond_true, cond_false, this, Bool.and_self, Bool.not_true]
        · have d2 : decide (((8 * t.size - J.2.p : Nat) : Int) = 0) = false := by simp; omega
          have d3 : (decide (0 ≤ IntKind.i64.wrap ((t.size : Int) - 1)) && decide (IntKind.i64.wrap ((t.size : Int) - 1) < (t.size : Int))) = true := by rw [i64_in _ (by omega)]; simp; omega
          simp only [d1, d2, d3, cond_true, cond_false, rest_nought t J.2.p hs (by omega) (by omega), Bool.true_and, Bool.not_true]
          by_cases hv : valB ((bitsT t).drop J.2.p) = 0
          · have : decide (packT (recBits r) = t) = true := by
              rw [decide_eq_true_eq, ← hri]; exact ⟨rfl, by omega, hv⟩
            have d4 : decide (((valB ((bitsT t).drop J.2.p) : Nat) : Int) = 0) = true := by rw [hv]; rfl
            simp only [this, d4, Bool.not_true, cond_false, cond_true]
          · have : decide (packT (recBits r) = t) = false := by
              rw [decide_eq_false_iff_not, ← hri]; exact fun h => hv h.2.2
            have d4 : decide (((valB ((bitsT t).drop J.2.p) : Nat) : Int) = 0) = false := by simp; omega
            simp only [this, d4, Bool.not_false, cond_false, cond_true]
end Go.Co.N
end

section
namespace Go.Co.N
open Go Go.Co

theorem eq_record_between : Eqs c_record_between g_record_between := Eqs.tot fun (a, b, c, _) _ => by
  change Int at a b c
  simp only [g_record_between, betw]
  cases decide (b ≤ a) <;> rfl
theorem eq_bits_fits : Eqs c_bits_fits g_bits_fits := Eqs.tot fun (a, b, _) hf => by
  change Int at a b
  have ha := fine_u64.1 hf.1
  simp only [g_bits_fits, fitW]
  by_cases h1 : 1 ≤ b
  · by_cases h2 : b ≤ 64
    · by_cases h3 : b = 64
      · simp [h1, h2, h3]
      · obtain ⟨a, rfl⟩ := Int.eq_ofNat_of_zero_le ha.1
        obtain ⟨b, rfl⟩ := Int.eq_ofNat_of_zero_le (show 0 ≤ b by omega)
        have e1 : IntKind.u64.wrap (b : Int) = (b : Int) := u64N _ (by omega)
        have e2 := shrN .u64 a b (by simp [IntKind.bits]; omega)
        have e3 : decide (((a / 2 ^ b : Nat) : Int) = 0) = decide ((a : Int) < 2 ^ b) := by
          congr 1
          simp only [eq_iff_iff]
          have hp : 0 < 2 ^ b := Nat.two_pow_pos b
          have : ((2 ^ b : Nat) : Int) = (2 : Int) ^ b := by simp
          rw [← this]
          constructor
          · intro h
            have h : a / 2 ^ b = 0 := by omega
            have := (Nat.div_eq_zero_iff_lt hp).1 h
            omega
          · intro h
            have : a / 2 ^ b = 0 := Nat.div_eq_of_lt (by omega)
            omega
        simp only [h1, h2, h3, decide_true, decide_false, cond_true, cond_false, e1, e2, e3, Bool.and_self, Bool.false_or, Bool.true_and, Int.toNat_natCast]
    · simp [h1, h2]
  · simp [h1]
theorem all_of {α : Type} [Inhabited α] {l : List α} {p : α → Bool} : allN l.length (fun i => p (lat l (i : Int))) = l.all p := bool_eq (by
  rw [allN_iff, List.all_eq_true]
  constructor
  · intro h x hx
    obtain ⟨i, hi, rfl⟩ := List.getElem_of_mem hx
    have := h i hi
    rwa [lat_nat l i hi] at this
  · intro h i hi
    rw [lat_nat l i hi]
    exact h _ (List.getElem_mem hi))
theorem eq_record_right : Eqs c_record_right g_record_right := Eqs.tot fun (r, _) _ => by
  change Record at r
  show g_record_right (r, ()) = some (goodRec r, ())
  simp only [g_record_right]
  unfold goodRec
  cases betw r.Epoch 1 200 with
  | false => rfl
  | true =>
    cases betw r.Fresh 22 32768 with
    | false => rfl
    | true =>
      have e : decide (64 < max (r.Leaves.length : Int) (r.Joins.length : Int)) = !(decide (r.Leaves.length ≤ 64) && decide (r.Joins.length ≤ 64)) := by
        rw [Bool.eq_iff_iff]; simp only [decide_eq_true_eq, Bool.not_eq_true', Bool.and_eq_false_iff, decide_eq_false_iff_not]; omega
      rw [e]
      cases h3 : (decide (r.Leaves.length ≤ 64) && decide (r.Joins.length ≤ 64)) with
      | false => simp only [Bool.not_true, Bool.not_false, cond_false, cond_true, Bool.true_and, h3, Bool.false_and]
      | true =>
        simp only [Bool.and_eq_true, decide_eq_true_eq] at h3
        simp only [Bool.not_true, cond_false, Bool.true_and, decide_eq_true h3.1, decide_eq_true h3.2, Bool.and_true]
        rw [lfp_all' (fun i => (((), r.Leaves, (r.Leaves.length : Int), (i : Int), ()), (r, ()), ())) r.Leaves.length (fun i => betw (lat r.Leaves (i : Int)) 0 255) (.inl ((false, ()), (), ())) (.inr (((), ()), (r, ()), ())) (by rfl)
          (fun i hi hb => by
            have h1 : decide ((i : Int) < (r.Leaves.length : Int)) = true := by simp; omega
            simp only [g_record_right_r1, h1, Int.natCast_nonneg, decide_true, Bool.and_self, cond_true, hb, Bool.not_true, cond_false, wrap1 i (by omega)])
          (fun i hi hb => by
            have h1 : decide ((i : Int) < (r.Leaves.length : Int)) = true := by simp; omega
            simp only [g_record_right_r1, h1, Int.natCast_nonneg, decide_true, Bool.and_self, cond_true, hb, Bool.not_false])
          (by simp [g_record_right_r1]), all_of (p := fun w => betw w 0 255)]
        simp only [Option.bind_some]
        cases r.Leaves.all (fun w => betw w 0 255) with
        | false => rfl
        | true =>
          simp only [cond_true, Sum.elim_inr, Bool.true_and]
          rw [lfp_all' (fun i => ((r.Joins, (r.Joins.length : Int), (i : Int), ()), (), ())) r.Joins.length (fun i => betw (lat r.Joins (i : Int)).Who 0 255 && betw (lat r.Joins (i : Int)).Slot 0 63) (.inl ((false, ()), (), ())) (.inr ((), (), ())) (by rfl)
            (fun i hi hb => by
              simp only [Bool.and_eq_true] at hb
              have h1 : decide ((i : Int) < (r.Joins.length : Int)) = true := by simp; omega
              simp only [g_record_right_r2, h1, Int.natCast_nonneg, decide_true, Bool.and_self, cond_true, hb.1, hb.2, Bool.not_true, cond_false, wrap1 i (by omega)])
            (fun i hi hb => by
              have h1 : decide ((i : Int) < (r.Joins.length : Int)) = true := by simp; omega
              simp only [g_record_right_r2, h1, Int.natCast_nonneg, decide_true, Bool.and_self, cond_true]
              cases hw : betw (lat r.Joins (i : Int)).Who 0 255 with
              | false => rfl
              | true => rw [hw, Bool.true_and] at hb; rw [hb]; rfl)
            (by simp [g_record_right_r2]), all_of (p := fun s : Seat => betw s.Who 0 255 && betw s.Slot 0 63)]
          simp only [Option.bind_some]
          cases r.Joins.all (fun s => betw s.Who 0 255 && betw s.Slot 0 63) <;> rfl
end Go.Co.N
end

section
namespace Go.Co.N
open Go Go.Co

/-! ### Bytes of bits -/
/-! ### Bits of bytes -/
end Go.Co.N
end

section
namespace Go.Co.N
open Go Go.Co

/-! ### Packed fields -/
/-! ### The reference's writer -/
def fld (v w : Int) : Fld := Fld.mk (IntKind.u64.wrap v) w
/-! ### The reference's reader -/
end Go.Co.N
end

section
namespace Go.Co.N
open Go Go.Co

theorem eq_ref13_Same : Eqs c_ref13_Same g_ref13_Same := Eqs.tot fun (a, b, _) _ => by
  change Record at a b
  show g_ref13_Same (a, b, ()) = some (decide (a = b), ())
  obtain ⟨e1, f1, l1, j1⟩ := a
  obtain ⟨e2, f2, l2, j2⟩ := b
  simp only [g_ref13_Same]
  by_cases h1 : e1 = e2
  · by_cases h2 : f1 = f2
    · by_cases h3 : l1 = l2
      · simp [h1, h2, h3]
      · simp [h1, h2, h3]
    · simp [h1, h2]
  · simp [h1]
theorem nextR_st {t : Tree} {b : Batch} (h : (nextT t b).e = 0) : nextR t b = ((nextT t b).t, ⟨(nextT t b).t.Epoch, (nextT t b).left, (nextT t b).joined, items (nextT t b).t (nextT t b).left (nextT t b).joined⟩, 0) := by
  unfold nextR; rw [decide_eq_true h]; rfl
theorem eq_ref13_Of : Eqs c_ref13_Of g_ref13_Of := Eqs.tot fun (t, b, _) _ => by
  change Tree at t; change Batch at b
  show g_ref13_Of (t, b, ()) = some ((ofR t b).1, (ofR t b).2, ())
  unfold ofR
  simp only [g_ref13_Of, nextR_e]
  by_cases h : (nextT t b).e = 0
  · simp only [decide_eq_true h, Bool.not_true, cond_false, cond_true, nextR_st h]
  · simp only [decide_eq_false h, Bool.not_false, cond_false, cond_true]
theorem eq_record_Of : Eqs c_record_Of g_record_Of := Eqs.tot fun (t, b, _) _ => by
  change Tree at t; change Batch at b
  show g_record_Of (t, b, ()) = some ((ofR t b).1, (ofR t b).2, ())
  unfold ofR
  simp only [g_record_Of, nextR_e]
  by_cases h : (nextT t b).e = 0
  · simp only [decide_eq_true h, Bool.not_true, cond_false, cond_true, nextR_st h]
  · simp only [decide_eq_false h, Bool.not_false, cond_false, cond_true]
theorem ofR_e (t : Tree) (b : Batch) : (ofR t b).2 = (nextT t b).e := by
  unfold ofR
  by_cases h : (nextT t b).e = 0
  · rw [decide_eq_true h, h]; rfl
  · rw [decide_eq_false h]; rfl
end Go.Co.N
end

section
set_option maxRecDepth 100000
noncomputable section
namespace Go.Co.N
open Go Go.Co
/-- coterie/coterielaw13.lives -/
def g_law13_lives : Unit → Option (Bool × Unit)
  | _ => some (true, ())
end Go.Co.N
end
end

section
namespace Go.Co.N
open Go Go.Co

theorem eq_law13_lives : Eqs c_law13_lives g_law13_lives := fun _ _ _ h => h
/-! ### Written and read -/
theorem readR_write {r : Record} (hg : goodRec r = true) : readR (packT (recBits r)) = (r, 0) := by
  have hp := parse_good (goodRec_iff.1 hg) (List.replicate (pad8 (recBits r).length) false)
  unfold readR
  rw [bits_pack, hp, hg]
  simp
theorem readR_bad {t : ByteArray} (h : ∀ r, goodRec r = true → packT (recBits r) ≠ t) : readR t = (zeroRec, 12) := by
  unfold readR
  cases hg : goodRec (parseR (bitsT t)).1 with
  | false => rfl
  | true => rw [decide_eq_false (h _ hg)]; rfl
theorem len_recBits_pos (r : Record) : 8 ≤ (recBits r).length := by
  unfold recBits
  rw [List.length_append, len_bitsN]; omega
theorem size_recBits {r : Record} (hg : goodRec r = true) : (recBits r).length ≤ 2000 := by
  have g := goodRec_iff.1 hg
  rw [recBits_eq]
  simp only [List.length_append, len_bitsN, len_leavesB, len_joinsB]
  have := g.nl; have := g.nj; omega
end Go.Co.N
end

section
namespace Go.Co.N
open Go Go.Co

theorem size_rec {r : Record} (hg : goodRec r = true) : 1 ≤ (packT (recBits r)).size ∧ (packT (recBits r)).size ≤ 251 := by
  rw [size_packT]
  have := len_recBits_pos r; have := size_recBits hg; omega
theorem writeR_good {r : Record} (hg : goodRec r = true) : writeR r = (packT (recBits r), 0) := by unfold writeR; rw [hg]; rfl
/-! ### Rows of records -/
theorem rec_good {t : Tree} {b : Batch} (h : (nextT t b).e = 0) : goodRec (ofR t b).1 = true := by
  have e : (ofR t b).1 = ⟨(nextT t b).t.Epoch, (nextT t b).t.Fresh, b.Leaves, (nextT t b).joined⟩ := by unfold ofR; rw [decide_eq_true h]; rfl
  rw [e]
  obtain ⟨e1, e2, e3⟩ := nx_epoch h
  obtain ⟨r1, r2, r3⟩ := nx_room h
  have hfr := nx_fresh h
  obtain ⟨j1, j2, j3, j4⟩ := nextT_joined h
  have hfi := (nextT_ok h).2.2.1
  have hl := (askL_0 (fits_ok hfi).2.1).1
  refine goodRec_iff.2 ⟨⟨by show 1 ≤ (nextT t b).t.Epoch; omega, by show (nextT t b).t.Epoch ≤ 200; omega⟩, ⟨by show 22 ≤ (nextT t b).t.Fresh; omega, r1⟩, j4, by show (nextT t b).joined.length ≤ 64; omega, fun w hw => ?_, fun s hs => ?_⟩
  · obtain ⟨k1, k2, _⟩ := hl w hw; omega
  · obtain ⟨i, k, hi, _, hk, hsl, _⟩ := nx_joined_at h hs
    have hj := (nx_joins h).2 s.Who (List.mem_of_getElem? hi)
    omega
/-- The log and the trees of a row of steps, and where it has led. -/
inductive Led : List ByteArray → List Tree → Tree → Prop
  | nil : Led [] [] startT
  | step {l : List ByteArray} {ns : List Tree} {t : Tree} {b : Batch} : Led l ns t → (nextT t b).e = 0 → Led (l ++ [packT (recBits (ofR t b).1)]) (ns ++ [(nextT t b).t]) (nextT t b).t
theorem Led.len {l : List ByteArray} {ns : List Tree} {t : Tree} (h : Led l ns t) : l.length = ns.length ∧ t.Epoch = ns.length ∧ ns.length ≤ 200 := by
  induction h with
  | nil => exact ⟨rfl, rfl, Nat.zero_le _⟩
  | step h0 he ih =>
    obtain ⟨a, b, c⟩ := nx_epoch he
    obtain ⟨i1, i2, i3⟩ := ih
    simp only [List.length_append, List.length_cons, List.length_nil]
    omega
theorem Led.last {l : List ByteArray} {ns : List Tree} {t : Tree} (h : Led l ns t) : (startT :: ns)[ns.length]? = some t := by
  cases h with
  | nil => rfl
  | step h0 he => simp
theorem Led.at {l : List ByteArray} {ns : List Tree} {t : Tree} (h : Led l ns t) : ∀ i, i < l.length → ∃ (p : Tree) (b : Batch), (startT :: ns)[i]? = some p ∧ (nextT p b).e = 0 ∧ l[i]? = some (packT (recBits (ofR p b).1)) ∧ ns[i]? = some (nextT p b).t := by
  induction h with
  | nil => intro i hi; cases hi
  | @step l ns t b h0 he ih =>
    intro i hi
    have hl := h0.len.1
    rw [List.length_append, List.length_singleton] at hi
    by_cases h1 : i < l.length
    · obtain ⟨p, c, a1, a2, a3, a4⟩ := ih i h1
      refine ⟨p, c, ?_, a2, ?_, ?_⟩
      · rw [← List.cons_append, List.getElem?_append_left (by rw [List.length_cons]; omega), a1]
      · rw [List.getElem?_append_left h1, a3]
      · rw [List.getElem?_append_left (by omega), a4]
    · have hi2 : i = l.length := by omega
      subst hi2
      refine ⟨t, b, ?_, he, ?_, ?_⟩
      · rw [← List.cons_append, List.getElem?_append_left (by rw [List.length_cons]; omega), hl, h0.last]
      · simp
      · rw [hl]; simp
/-! ### A right tree is never called wrong -/
end Go.Co.N
end

section
namespace Go.Co.N
open Go Go.Co

abbrev c_law13_RecordMemory : Con := ⟨[.st .tree, .st .batch], [.bool], fun x => guardK (decide (List.length (x.2.1 : Batch).Leaves * 8 ≤ 140737488351232) && decide (List.length (x.2.1 : Batch).Joins * 8 ≤ 140737488351232)) (some (true, ()))⟩
end Go.Co.N
end

section
set_option maxRecDepth 100000
noncomputable section
namespace Go.Co.N
open Go Go.Co
def g_law13_RecordMemory_r1 : (Unit × Unit × Unit × Unit × Unit × Int × Unit × Int × Int × Unit) × ((Int × Int × Unit) × Unit) × List Int × Unit → Option (((Unit × Unit × Unit × Unit × Unit × Int × Unit × Int × Int × Unit) × ((Int × Int × Unit) × Unit) × List Int × Unit) ⊕ ((Unit × Unit × Unit × Unit × Int × Unit × Unit) × ((Int × Int × Unit) × Unit) × List Int × Unit))
  | ((_, _, _, _, _, a, _, b, c, _), ((d, e, _), _), f, _) => bif decide (c < b) then bif decide (0 ≤ c) && decide (c < d) then some (Sum.inl (((), (), (), (), (), a, (), b, IntKind.wrap IntKind.i64 (c + 1), ()), ((d, e, ()), ()), lput f c (-5), ())) else none else some (Sum.inr (((), (), (), (), a, (), ()), ((d, e, ()), ()), f, ()))
def g_law13_RecordMemory_r2 : (Unit × Unit × Unit × Unit × Int × Unit × Int × Int × Unit) × ((Int × Int × Unit × Unit × Unit) × Unit) × List Int × Unit → Option (((Unit × Unit × Unit × Unit × Int × Unit × Int × Int × Unit) × ((Int × Int × Unit × Unit × Unit) × Unit) × List Int × Unit) ⊕ ((Unit × Unit × Unit × Unit × Int × Unit × Unit) × ((Int × Int × Unit × Unit × Unit) × Unit) × List Int × Unit))
  | ((_, _, _, _, a, _, b, c, _), ((d, e, _, _, _), _), f, _) => bif decide (c < b) then bif decide (0 ≤ c) && decide (c < (↑(List.length f) : Int)) then some (Sum.inl (((), (), (), (), a, (), b, IntKind.wrap IntKind.i64 (c + 1), ()), ((d, e, (), (), ()), ()), lput f c (-6), ())) else none else some (Sum.inr (((), (), (), (), a, (), ()), ((d, e, (), (), ()), ()), f, ()))
def g_law13_RecordMemory_r3 : (Unit × Unit × Unit × Unit × Int × Unit × Int × Int × Unit) × ((Int × Int × Unit × Unit × Unit) × Unit) × List Seat × Unit → Option (((Unit × Unit × Unit × Unit × Int × Unit × Int × Int × Unit) × ((Int × Int × Unit × Unit × Unit) × Unit) × List Seat × Unit) ⊕ ((Unit × Unit × Unit × Unit × Int × Unit × Unit) × ((Int × Int × Unit × Unit × Unit) × Unit) × List Seat × Unit))
  | ((_, _, _, _, a, _, b, c, _), ((d, e, _, _, _), _), f, _) => bif decide (c < b) then bif decide (0 ≤ c) && decide (c < (↑(List.length f) : Int)) then some (Sum.inl (((), (), (), (), a, (), b, IntKind.wrap IntKind.i64 (c + 1), ()), ((d, e, (), (), ()), ()), lput f c (Seat.mk (-7) 0), ())) else none else some (Sum.inr (((), (), (), (), a, (), ()), ((d, e, (), (), ()), ()), f, ()))
def g_law13_RecordMemory_r4 : (Unit × Unit × Unit × Unit × Int × Unit × Int × Int × Unit) × ((Int × Int × Unit × Unit × Unit) × Unit) × List Int × Unit → Option (((Unit × Unit × Unit × Unit × Int × Unit × Int × Int × Unit) × ((Int × Int × Unit × Unit × Unit) × Unit) × List Int × Unit) ⊕ ((Unit × Unit × Unit × Unit × Int × Unit × Unit) × ((Int × Int × Unit × Unit × Unit) × Unit) × List Int × Unit))
  | ((_, _, _, _, a, _, b, c, _), ((d, e, _, _, _), _), f, _) => bif decide (c < b) then bif decide (0 ≤ c) && decide (c < (↑(List.length f) : Int)) then some (Sum.inl (((), (), (), (), a, (), b, IntKind.wrap IntKind.i64 (c + 1), ()), ((d, e, (), (), ()), ()), lput f c (-8), ())) else none else some (Sum.inr (((), (), (), (), a, (), ()), ((d, e, (), (), ()), ()), f, ()))
def g_law13_RecordMemory_r5 : (Unit × Unit × Unit × Unit × Int × Unit × Int × Int × Unit) × ((Int × Int × Unit × Unit × Unit) × Unit) × List Seat × Unit → Option (((Unit × Unit × Unit × Unit × Int × Unit × Int × Int × Unit) × ((Int × Int × Unit × Unit × Unit) × Unit) × List Seat × Unit) ⊕ ((Unit × Unit × Unit × Unit × Int × Unit × Unit) × ((Int × Int × Unit × Unit × Unit) × Unit) × List Seat × Unit))
  | ((_, _, _, _, a, _, b, c, _), ((d, e, _, _, _), _), f, _) => bif decide (c < b) then bif decide (0 ≤ c) && decide (c < (↑(List.length f) : Int)) then some (Sum.inl (((), (), (), (), a, (), b, IntKind.wrap IntKind.i64 (c + 1), ()), ((d, e, (), (), ()), ()), lput f c (Seat.mk (-9) 0), ())) else none else some (Sum.inr (((), (), (), (), a, (), ()), ((d, e, (), (), ()), ()), f, ()))
/-- coterie/coterielaw13.RecordMemory -/
def g_law13_RecordMemory : Tree × Batch × Unit → Option (Bool × Unit)
  | (a, b, _) => bif decide ((0 + List.length b.Leaves) * 8 ≤ 140737488355328) then bif decide ((List.length (List.append [] b.Leaves) + 1) * 8 ≤ 140737488355328) then bif decide ((0 + List.length b.Joins) * 8 ≤ 140737488355328) then bif decide ((List.length (List.append [] b.Joins) + 1) * 8 ≤ 140737488355328) then bif decide (0 ≤ (↑(List.length b.Leaves) : Int)) && decide ((↑(List.length b.Leaves) : Int) ≤ (↑(List.length (List.append (List.append [] b.Leaves) [-71])) : Int)) then bif decide (0 ≤ (↑(List.length b.Joins) : Int)) && decide ((↑(List.length b.Joins) : Int) ≤ (↑(List.length (List.append (List.append [] b.Joins) [-72])) : Int)) then bif !decide ((ofR a b).snd = (ofR a (Batch.mk (List.take (Int.toNat (↑(List.length b.Leaves) : Int)) (List.append (List.append [] b.Leaves) [-71])) (List.take (Int.toNat (↑(List.length b.Joins) : Int)) (List.append (List.append [] b.Joins) [-72])))).snd) then some (false, ()) else bif !decide ((ofR a b).snd = (ofR a (Batch.mk (List.take (Int.toNat (↑(List.length b.Leaves) : Int)) (List.append (List.append [] b.Leaves) [-71])) (List.take (Int.toNat (↑(List.length b.Joins) : Int)) (List.append (List.append [] b.Joins) [-72])))).snd) then some (false, ()) else bif !decide (List.take (Int.toNat (↑(List.length b.Leaves) : Int)) (List.append (List.append [] b.Leaves) [-71]) = b.Leaves) then some (false, ()) else bif !decide (List.take (Int.toNat (↑(List.length b.Joins) : Int)) (List.append (List.append [] b.Joins) [-72]) = b.Joins) then some (false, ()) else bif decide (0 ≤ IntKind.wrap IntKind.i64 ((↑(List.length (List.append (List.append [] b.Leaves) [-71])) : Int) - 1)) && decide (IntKind.wrap IntKind.i64 ((↑(List.length (List.append (List.append [] b.Leaves) [-71])) : Int) - 1) < (↑(List.length (List.append (List.append [] b.Leaves) [-71])) : Int)) then bif !decide (lat (List.append (List.append [] b.Leaves) [-71]) (IntKind.wrap IntKind.i64 ((↑(List.length (List.append (List.append [] b.Leaves) [-71])) : Int) - 1)) = -71) then some (false, ()) else bif decide (0 ≤ IntKind.wrap IntKind.i64 ((↑(List.length (List.append (List.append [] b.Joins) [-72])) : Int) - 1)) && decide (IntKind.wrap IntKind.i64 ((↑(List.length (List.append (List.append [] b.Joins) [-72])) : Int) - 1) < (↑(List.length (List.append (List.append [] b.Joins) [-72])) : Int)) then bif !decide (lat (List.append (List.append [] b.Joins) [-72]) (IntKind.wrap IntKind.i64 ((↑(List.length (List.append (List.append [] b.Joins) [-72])) : Int) - 1)) = -72) then some (false, ()) else Option.bind (bif decide (ByteArray.size (writeR (ofR a b).fst).fst ≤ 140737488355328) then some ((readR (writeR (ofR a b).fst).fst).fst, (readR (writeR (ofR a b).fst).fst).snd, ()) else none) fun y => Option.bind (bif decide (ByteArray.size (writeR (ofR a b).fst).fst ≤ 140737488355328) then some ((readR (writeR (ofR a b).fst).fst).fst, (readR (writeR (ofR a b).fst).fst).snd, ()) else none) fun y_1 => bif !decide ((writeR (ofR a b).fst).snd = y.snd.fst) then some (false, ()) else Option.bind (lfp g_law13_RecordMemory_r1 (((), (), (), (), (), y.snd.fst, (), (↑(List.length b.Leaves) : Int), 0, ()), (((↑(List.length b.Leaves) : Int), (↑(List.length b.Joins) : Int), ()), ()), List.append (List.append [] b.Leaves) [-71], ())) fun z => Option.bind (lfp g_law13_RecordMemory_r2 (((), (), (), (), z.fst.snd.snd.snd.snd.fst, (), (↑(List.length (ofR a (Batch.mk (List.take (Int.toNat (↑(List.length b.Leaves) : Int)) (List.append (List.append [] b.Leaves) [-71])) (List.take (Int.toNat (↑(List.length b.Joins) : Int)) (List.append (List.append [] b.Joins) [-72])))).fst.Leaves) : Int), 0, ()), (((ofR a (Batch.mk (List.take (Int.toNat (↑(List.length b.Leaves) : Int)) (List.append (List.append [] b.Leaves) [-71])) (List.take (Int.toNat (↑(List.length b.Joins) : Int)) (List.append (List.append [] b.Joins) [-72])))).fst.Epoch, (ofR a (Batch.mk (List.take (Int.toNat (↑(List.length b.Leaves) : Int)) (List.append (List.append [] b.Leaves) [-71])) (List.take (Int.toNat (↑(List.length b.Joins) : Int)) (List.append (List.append [] b.Joins) [-72])))).fst.Fresh, (), (), ()), ()), (ofR a (Batch.mk (List.take (Int.toNat (↑(List.length b.Leaves) : Int)) (List.append (List.append [] b.Leaves) [-71])) (List.take (Int.toNat (↑(List.length b.Joins) : Int)) (List.append (List.append [] b.Joins) [-72])))).fst.Leaves, ())) fun z => Option.bind (lfp g_law13_RecordMemory_r3 (((), (), (), (), z.fst.snd.snd.snd.snd.fst, (), (↑(List.length (ofR a (Batch.mk (List.take (Int.toNat (↑(List.length b.Leaves) : Int)) (List.append (List.append [] b.Leaves) [-71])) (List.take (Int.toNat (↑(List.length b.Joins) : Int)) (List.append (List.append [] b.Joins) [-72])))).fst.Joins) : Int), 0, ()), ((z.snd.fst.fst.fst, z.snd.fst.fst.snd.fst, (), (), ()), ()), (ofR a (Batch.mk (List.take (Int.toNat (↑(List.length b.Leaves) : Int)) (List.append (List.append [] b.Leaves) [-71])) (List.take (Int.toNat (↑(List.length b.Joins) : Int)) (List.append (List.append [] b.Joins) [-72])))).fst.Joins, ())) fun z_1 => Option.bind (lfp g_law13_RecordMemory_r4 (((), (), (), (), z_1.fst.snd.snd.snd.snd.fst, (), (↑(List.length y.fst.Leaves) : Int), 0, ()), ((y.fst.Epoch, y.fst.Fresh, (), (), ()), ()), y.fst.Leaves, ())) fun z_2 => Option.bind (lfp g_law13_RecordMemory_r5 (((), (), (), (), z_2.fst.snd.snd.snd.snd.fst, (), (↑(List.length y.fst.Joins) : Int), 0, ()), ((z_2.snd.fst.fst.fst, z_2.snd.fst.fst.snd.fst, (), (), ()), ()), y.fst.Joins, ())) fun z_3 => bif decide ((List.length z.snd.snd.fst + 1) * 8 ≤ 140737488355328) then bif decide ((List.length z_2.snd.snd.fst + 1) * 8 ≤ 140737488355328) then bif decide ((List.length z_1.snd.snd.fst + 1) * 16 ≤ 140737488355328) then bif decide (Record.mk (ofR a (Batch.mk (List.take (Int.toNat (↑(List.length b.Leaves) : Int)) (List.append (List.append [] b.Leaves) [-71])) (List.take (Int.toNat (↑(List.length b.Joins) : Int)) (List.append (List.append [] b.Joins) [-72])))).fst.Epoch (ofR a (Batch.mk (List.take (Int.toNat (↑(List.length b.Leaves) : Int)) (List.append (List.append [] b.Leaves) [-71])) (List.take (Int.toNat (↑(List.length b.Joins) : Int)) (List.append (List.append [] b.Joins) [-72])))).fst.Fresh (ofR a (Batch.mk (List.take (Int.toNat (↑(List.length b.Leaves) : Int)) (List.append (List.append [] b.Leaves) [-71])) (List.take (Int.toNat (↑(List.length b.Joins) : Int)) (List.append (List.append [] b.Joins) [-72])))).fst.Leaves (ofR a (Batch.mk (List.take (Int.toNat (↑(List.length b.Leaves) : Int)) (List.append (List.append [] b.Leaves) [-71])) (List.take (Int.toNat (↑(List.length b.Joins) : Int)) (List.append (List.append [] b.Joins) [-72])))).fst.Joins = (ofR a b).fst) then bif !decide (z_3.fst.snd.snd.snd.snd.fst = 0) then some (!decide (List.append z_1.snd.snd.fst [Seat.mk (-3) 0] = (ofR a (Batch.mk (List.take (Int.toNat (↑(List.length b.Leaves) : Int)) (List.append (List.append [] b.Leaves) [-71])) (List.take (Int.toNat (↑(List.length b.Joins) : Int)) (List.append (List.append [] b.Joins) [-72])))).fst.Joins), ()) else bif decide (Record.mk y_1.fst.Epoch y_1.fst.Fresh y_1.fst.Leaves y_1.fst.Joins = (ofR a b).fst) then some (!decide (List.append z_1.snd.snd.fst [Seat.mk (-3) 0] = (ofR a (Batch.mk (List.take (Int.toNat (↑(List.length b.Leaves) : Int)) (List.append (List.append [] b.Leaves) [-71])) (List.take (Int.toNat (↑(List.length b.Joins) : Int)) (List.append (List.append [] b.Joins) [-72])))).fst.Joins), ()) else some (false, ()) else some (false, ()) else none else none else none else none else none else none else none else none else none else none else none
end Go.Co.N
end
end

section
set_option maxRecDepth 100000
noncomputable section
namespace Go.Co.N
open Go Go.Co
end Go.Co.N
end
end

section
namespace Go.Co.N
open Go Go.Co

def fillL {α : Type} (d : List α) (x : α) : Nat → List α
  | 0 => d
  | i + 1 => lput (fillL d x i) (i : Int) x
theorem fillL_len {α : Type} (d : List α) (x : α) : ∀ i, (fillL d x i).length = d.length
  | 0 => rfl
  | i + 1 => by simp [fillL, lput, fillL_len d x i]
theorem lat_last {α : Type} [Inhabited α] (l : List α) (x : α) : lat (l ++ [x]) (l.length : Int) = x := by
  rw [lat_nat _ _ (by simp)]; simp
end Go.Co.N
end

section
namespace Go.Co.N
open Go Go.Co

theorem rm_lfp1 (h : Int) (n : Nat) (k : Int) (f : List Int) (hn : n ≤ 9223372036854775807) : lfp g_law13_RecordMemory_r1 (((), (), (), (), (), h, (), (n : Int), 0, ()), (((n : Int), k, ()), ()), f, ()) =
    some (((), (), (), (), h, (), ()), (((n : Int), k, ()), ()), fillL f (-5) n, ()) := by
  rw [lfp_run' (fun i => (((), (), (), (), (), h, (), (n : Int), (i : Int), ()), (((n : Int), k, ()), ()), fillL f (-5) i, ())) n (by simp [fillL]) fun i hi => by
    have g1 : (i : Int) < (n : Int) := by omega
    simp only [g_law13_RecordMemory_r1, g1, decide_true, cond_true, Int.natCast_nonneg, Bool.and_self, wrap1' hi hn, fillL]]
  exact lfp_inr (by simp [g_law13_RecordMemory_r1])
theorem rm_lfp2 (h d e : Int) (f : List Int) (hd : f.length ≤ 1000000) : lfp g_law13_RecordMemory_r2 (((), (), (), (), h, (), (f.length : Int), 0, ()), ((d, e, (), (), ()), ()), f, ()) =
    some (((), (), (), (), h, (), ()), ((d, e, (), (), ()), ()), fillL f (-6) f.length, ()) := by
  rw [lfp_run' (fun i => (((), (), (), (), h, (), (f.length : Int), (i : Int), ()), ((d, e, (), (), ()), ()), fillL f (-6) i, ())) f.length (by simp [fillL]) fun i hi => by
    have g1 : (i : Int) < (f.length : Int) := by omega
    simp only [g_law13_RecordMemory_r2, g1, fillL_len, decide_true, cond_true, Int.natCast_nonneg, Bool.and_self, wrap1' hi (by omega), fillL]]
  exact lfp_inr (by simp [g_law13_RecordMemory_r2])
theorem rm_lfp3 (h d e : Int) (f : List Co.Seat) (hd : f.length ≤ 1000000) : lfp g_law13_RecordMemory_r3 (((), (), (), (), h, (), (f.length : Int), 0, ()), ((d, e, (), (), ()), ()), f, ()) =
    some (((), (), (), (), h, (), ()), ((d, e, (), (), ()), ()), fillL f (Seat.mk (-7) 0) f.length, ()) := by
  rw [lfp_run' (fun i => (((), (), (), (), h, (), (f.length : Int), (i : Int), ()), ((d, e, (), (), ()), ()), fillL f (Seat.mk (-7) 0) i, ())) f.length (by simp [fillL]) fun i hi => by
    have g1 : (i : Int) < (f.length : Int) := by omega
    simp only [g_law13_RecordMemory_r3, g1, fillL_len, decide_true, cond_true, Int.natCast_nonneg, Bool.and_self, wrap1' hi (by omega), fillL]]
  exact lfp_inr (by simp [g_law13_RecordMemory_r3])
theorem rm_lfp4 (h d e : Int) (f : List Int) (hd : f.length ≤ 1000000) : lfp g_law13_RecordMemory_r4 (((), (), (), (), h, (), (f.length : Int), 0, ()), ((d, e, (), (), ()), ()), f, ()) =
    some (((), (), (), (), h, (), ()), ((d, e, (), (), ()), ()), fillL f (-8) f.length, ()) := by
  rw [lfp_run' (fun i => (((), (), (), (), h, (), (f.length : Int), (i : Int), ()), ((d, e, (), (), ()), ()), fillL f (-8) i, ())) f.length (by simp [fillL]) fun i hi => by
    have g1 : (i : Int) < (f.length : Int) := by omega
    simp only [g_law13_RecordMemory_r4, g1, fillL_len, decide_true, cond_true, Int.natCast_nonneg, Bool.and_self, wrap1' hi (by omega), fillL]]
  exact lfp_inr (by simp [g_law13_RecordMemory_r4])
theorem rm_lfp5 (h d e : Int) (f : List Co.Seat) (hd : f.length ≤ 1000000) : lfp g_law13_RecordMemory_r5 (((), (), (), (), h, (), (f.length : Int), 0, ()), ((d, e, (), (), ()), ()), f, ()) =
    some (((), (), (), (), h, (), ()), ((d, e, (), (), ()), ()), fillL f (Seat.mk (-9) 0) f.length, ()) := by
  rw [lfp_run' (fun i => (((), (), (), (), h, (), (f.length : Int), (i : Int), ()), ((d, e, (), (), ()), ()), fillL f (Seat.mk (-9) 0) i, ())) f.length (by simp [fillL]) fun i hi => by
    have g1 : (i : Int) < (f.length : Int) := by omega
    simp only [g_law13_RecordMemory_r5, g1, fillL_len, decide_true, cond_true, Int.natCast_nonneg, Bool.and_self, wrap1' hi (by omega), fillL]]
  exact lfp_inr (by simp [g_law13_RecordMemory_r5])
theorem readR_empty : readR (bytesOf []) = (zeroRec, 12) := readR_bad fun r hg he => by
  have h1 := (size_rec hg).1
  rw [he] at h1
  exact absurd h1 (by decide)
/-- A step's record: its lists are short; written and read it is itself, or nothing. -/
theorem of_cases (t : Tree) (b : Batch) : ((ofR t b).1.Leaves.length ≤ 64 ∧ (ofR t b).1.Joins.length ≤ 64) ∧ (ByteArray.size (writeR (ofR t b).1).1 ≤ 251) ∧
    (((ofR t b).2 = 0 ∧ (writeR (ofR t b).1).2 = 0 ∧ readR (writeR (ofR t b).1).1 = ((ofR t b).1, 0)) ∨ ((ofR t b).1 = zeroRec ∧ (writeR (ofR t b).1).2 = 12 ∧ readR (writeR (ofR t b).1).1 = (zeroRec, 12))) := by
  by_cases h : (nextT t b).e = 0
  · have hg := rec_good h
    have g := goodRec_iff.1 hg
    rw [writeR_good hg]
    exact ⟨⟨g.nl, g.nj⟩, (size_rec hg).2, .inl ⟨by rw [ofR_e, h], rfl, readR_write hg⟩⟩
  · have e : ofR t b = (zeroRec, (nextT t b).e) := by unfold ofR; rw [decide_eq_false h]; rfl
    have hw : writeR zeroRec = (bytesOf [], 12) := by
      unfold writeR
      have : goodRec zeroRec = false := by decide
      rw [this]; rfl
    rw [e, hw]
    exact ⟨⟨Nat.zero_le _, Nat.zero_le _⟩, by show (bytesOf []).size ≤ 251; decide, .inr ⟨rfl, rfl, readR_empty⟩⟩
theorem eq_law13_RecordMemory : Eqs c_law13_RecordMemory g_law13_RecordMemory := fun (t, b, _) y hf h => by
  change Tree at t
  change Batch at b
  obtain ⟨hg, hy⟩ := guardK_some h
  cases hy
  simp only [Bool.and_eq_true, decide_eq_true_eq] at hg
  obtain ⟨hl, hj⟩ := hg
  have hl : b.Leaves.length * 8 ≤ 140737488351232 := hl
  have hj : b.Joins.length * 8 ≤ 140737488351232 := hj
  have a1 : (0 + b.Leaves.length) * 8 ≤ 140737488355328 := by omega
  have a2 : (b.Leaves.length + 1) * 8 ≤ 140737488355328 := by omega
  have a3 : (0 + b.Joins.length) * 8 ≤ 140737488355328 := by omega
  have a4 : (b.Joins.length + 1) * 8 ≤ 140737488355328 := by omega
  have e1 : ∀ l : List Int, List.append [] l = l := fun _ => rfl
  have e2 : ∀ (l : List Int) (x : Int), List.append l [x] = l ++ [x] := fun _ _ => rfl
  have e3 : ∀ (l : List Int) (x : Int), (l ++ [x]).length = l.length + 1 := by simp
  have e4 : ∀ (l : List Int) (x : Int), List.take (Int.toNat (l.length : Int)) (l ++ [x]) = l := by simp
  have e5 : ∀ n : Nat, n * 8 ≤ 140737488351232 → IntKind.wrap IntKind.i64 (((n + 1 : Nat) : Int) - 1) = (n : Int) := fun n hn => by rw [i64_in _ (by omega)]; omega
  have g3 : ∀ n : Nat, (0 : Int) ≤ (n : Int) := by omega
  have g4 : ∀ n : Nat, (n : Int) ≤ ((n + 1 : Nat) : Int) := by omega
  have g5 : ∀ n : Nat, (n : Int) < ((n + 1 : Nat) : Int) := by omega
  have eb : Batch.mk b.Leaves b.Joins = b := rfl
  obtain ⟨⟨n1, n2⟩, n3, hc⟩ := of_cases t b
  have s1 : decide (ByteArray.size (writeR (ofR t b).1).1 ≤ 140737488355328) = true := decide_eq_true (by omega)
  have er : ∀ r : Record, Record.mk r.Epoch r.Fresh r.Leaves r.Joins = r := fun _ => rfl
  have fin : ∀ (l : List Co.Seat) (x z : Co.Seat), decide (List.append (fillL l x l.length) [z] = l) = false := fun l x z => decide_eq_false fun h => by
    have := congrArg List.length h
    simp [fillL_len] at this
  show g_law13_RecordMemory (t, b, ()) = some (true, ())
  simp only [g_law13_RecordMemory, e1, e2, e3, e4, e5 _ hl, e5 _ hj, eb, a1, a2, a3, a4, g3, g4, g5, lat_last, decide_true, Bool.and_self, cond_true, Bool.not_true, cond_false, s1, Option.bind_some]
  rcases hc with ⟨h0, h1, h2⟩ | ⟨h0, h1, h2⟩
  · simp only [h1, h2, decide_true, Bool.not_true, cond_false]
    rw [rm_lfp1 _ _ _ _ (by omega)]
    simp only [Option.bind_some]
    rw [rm_lfp2 _ _ _ _ (by omega)]
    simp only [Option.bind_some]
    rw [rm_lfp3 _ _ _ _ (by omega)]
    simp only [Option.bind_some]
    rw [rm_lfp4 _ _ _ _ (by omega)]
    simp only [Option.bind_some]
    rw [rm_lfp5 _ _ _ _ (by omega)]
    have c1 : decide ((List.length (ofR t b).1.Leaves + 1) * 8 ≤ 140737488355328) = true := decide_eq_true (by omega)
    have c2 : decide ((List.length (ofR t b).1.Joins + 1) * 16 ≤ 140737488355328) = true := decide_eq_true (by omega)
    simp only [Option.bind_some, fillL_len, c1, c2, cond_true, decide_true, Bool.not_true, cond_false, fin, Bool.not_false]
  · simp only [h1, h2, decide_true, Bool.not_true, cond_false]
    rw [rm_lfp1 _ _ _ _ (by omega)]
    simp only [Option.bind_some]
    rw [rm_lfp2 _ _ _ _ (by omega)]
    simp only [Option.bind_some]
    rw [rm_lfp3 _ _ _ _ (by omega)]
    simp only [Option.bind_some]
    rw [show lfp g_law13_RecordMemory_r4 (((), (), (), (), 12, (), (List.length ([] : List Int) : Int), 0, ()), ((0, 0, (), (), ()), ()), [], ()) = _ from rm_lfp4 12 0 0 [] (by simp)]
    simp only [Option.bind_some]
    rw [show lfp g_law13_RecordMemory_r5 (((), (), (), (), 12, (), (List.length ([] : List Co.Seat) : Int), 0, ()), ((0, 0, (), (), ()), ()), [], ()) = _ from rm_lfp5 12 0 0 [] (by simp)]
    have c1 : decide ((List.length (ofR t b).1.Leaves + 1) * 8 ≤ 140737488355328) = true := decide_eq_true (by omega)
    have c2 : decide ((List.length (ofR t b).1.Joins + 1) * 16 ≤ 140737488355328) = true := decide_eq_true (by omega)
    have c3 : decide ((12 : Int) = 0) = false := rfl
    simp only [Option.bind_some, fillL_len, c1, c2, c3, cond_true, Bool.not_false, fin]
    simp
end Go.Co.N
end

section
namespace Go.Co
open Go Go.RowKit

/-- It speaks of cells alone. -/
structure Cl {α : Type} (n0 : Nat) (I : List α → World → Prop) : Prop where
  alloc : ∀ s A o, o.isCells = false → I s A → I s (A.alloc o)
  putObj : ∀ s A l o o', n0 ≤ l → I s A → A.heap[l]? = some o → o.isCells = false → o'.isCells = false → I s (A.putObj l o')
/-- What a round must achieve. -/
def roundPost {α : Type} (Be : Nat) (I : List α → World → Prop) (Ix : Code → List α → World → Prop) (xs : List α) (W : World) : Exit → Act → World → Prop
  | .normal, _, W' => KeepsOthers W W' ∧ W'.heap[Be]? = W.heap[Be]? ∧ I xs W'
  | .ret, _, W' => KeepsOthers W W' ∧ Ix .ret xs W'
  | .exit id, _, W' => KeepsOthers W W' ∧ Ix (.exit id) xs W'
  | _, _, _ => False
theorem rangeFunc_box {F : Fence} {n : Nat} {P : Program} {α : Type} {g : Operand} {ps : Array Tmp} {assign body : Code} {Q : Exit → Act → World → Prop} {a : Act} {w : World}
    (hro : F.round = none) (h1 : 1 ≤ n) {gf : Nat} {lb : Array Value} (hg : a.eval g = .func (.func gf) #[] lb) (hFg : F.fn gf) (eg : ∀ args w, (callFunc gf args).run P w = .ok (.enter gf args) w)
    {encs : α → Array Value} {Be : Nat} {tB : TypeId} {xB : Value} {G : World → Prop} {xs : List α} (hps : ∀ x, (encs x).size = ps.size)
    (hseq : ∀ (l : Nat) (J Jx : List α → World → Prop) (W : World), (∀ pre A x v, J pre A → Boxed A Be tB x → J pre (A.setCell ⟨Be, 0, none⟩ v)) → (∀ pre A, J pre A → G A) →
      (∀ pre x W, J pre W → pre ++ [x] <+: xs → YieldAt F (n - 1 - 1) P l (encs x) W fun e W' => (e = .returned (.bool true) ∧ J (pre ++ [x]) W' ∧ W'.heap[Be]? = W.heap[Be]?) ∨ (e = .returned (.bool false) ∧ Jx (pre ++ [x]) W')) →
      Boxed W Be tB xB → J [] W → CallsIn F (n - 1) P gf (#[.func (.yield l) #[] #[]] ++ lb) W fun e W' => (∃ v, e = .returned v) ∧ (J xs W' ∨ ∃ pre, pre <+: xs ∧ Jx pre W'))
    (hB : Boxed w Be tB xB) (I : List α → World → Prop) (Ix : Code → List α → World → Prop) (hI : Cl w.heap.size I) (hIx : ∀ c, Cl w.heap.size (Ix c)) (hset : ∀ pre A x v, I pre A → Boxed A Be tB x → I pre (A.setCell ⟨Be, 0, none⟩ v)) (hG : ∀ pre A, I pre A → G A) (h0 : I [] w) (a₁ : α → Act)
    (hassign : ∀ (l : Nat) (x : α) (W : World) (K : Act → World → Prop), K (a₁ x) W →
      assign.wpIn (F.inRound l) (n - 1 - 1) P (Exit.then K (fun _ _ _ => False)) { tmps := (ps.zip (encs x)).foldl (fun t (p, v) => t.setIfInBounds p v) a.tmps, defers := [] } W)
    (hbody : ∀ (l : Nat) (pre : List α) (x : α) (W : World), I pre W → pre ++ [x] <+: xs → body.wpIn (F.inRound l) (n - 1 - 1) P (roundPost Be I Ix (pre ++ [x]) W) (a₁ x) W)
    (hdone : ∀ (D : Nat) (W : World), I xs W → W.heap[D]? = some (.deferred (some [])) → w.heap.size ≤ D → Q .normal { a with defers := { target := .collected D, args := #[] } :: a.defers } W)
    (hstop : ∀ (D : Nat) (c : Code) (pre : List α) (W : World), pre <+: xs → Ix c pre W → W.heap[D]? = some (.deferred (some [])) → w.heap.size ≤ D → c.wpIn F n P Q { a with defers := { target := .collected D, args := #[] } :: a.defers } W) :
    (Code.rangeFunc g ps assign body).wpIn F n P Q a w := by
  refine wpIn_rangeFunc ?_
  intro fn hfn
  rw [hro]
  obtain ⟨rec, hrec⟩ : ∃ rec : LoopState → Option Code → Loop, rec = fun st pe => { state := st, pending := pe, fn, tmps := a.tmps, params := ps, assign, body, defers := w.heap.size } := ⟨_, rfl⟩
  obtain ⟨W1, hW1⟩ : ∃ W1, (w.alloc (.deferred (some []))).alloc (.loop (rec .ready none)) = W1 := ⟨_, rfl⟩
  have hL1 : W1.heap[w.heap.size + 1]? = some (.loop (rec .ready none)) := by
    rw [← hW1]; have := World.alloc_heap_new (w.alloc (.deferred (some []))) (.loop (rec .ready none)); rwa [World.size_alloc] at this
  have hK1 : W1.heap[w.heap.size]? = some (.deferred (some [])) := by
    rw [← hW1]; exact (Below.heap_alloc _ _ _ (by simp)).trans (World.alloc_heap_new w _)
  have hI1 : I [] W1 := by rw [← hW1]; exact hI.alloc _ _ _ rfl (hI.alloc _ _ _ rfl h0)
  have hB1 : Boxed W1 Be tB xB := by rw [← hW1]; exact (hB.alloc _).alloc _
  have hBlt : Be < w.heap.size := hB.lt
  refine ⟨w.heap.size + 1, [{ target := .collected w.heap.size, args := #[] }], W1, { target := .fn (.func gf) lb, args := #[.func (.yield (w.heap.size + 1)) #[] #[]] }, W1, gf,
    #[.func (.yield (w.heap.size + 1)) #[] #[]] ++ lb, W1, ?_, ?_, ?_, ?_, fun _ => h1, ?_⟩
  · rw [← hW1, hrec]; exact run_enterLoop_outer _ _ _ _ _
  · simp only [resolve, hg]
    simp [go_sem]
  · intro f' hf'; simp [Target.leads] at hf'; subst hf'; exact hFg
  · simp [invoke, go_sem, eg]
  · refine (hseq (w.heap.size + 1)
      (fun pre W => I pre W ∧ W.heap[w.heap.size + 1]? = some (.loop (rec .ready none)) ∧ W.heap[w.heap.size]? = some (.deferred (some [])))
      (fun pre W => ∃ c, Ix c pre W ∧ W.heap[w.heap.size + 1]? = some (.loop (rec .done (some c))) ∧ W.heap[w.heap.size]? = some (.deferred (some [])))
      W1 ?_ (fun pre A h => hG pre A h.1) ?_ hB1 ⟨hI1, hL1, hK1⟩).mono ?_
    · rintro pre A x v ⟨hi, hl, hk⟩ hb
      exact ⟨hset _ _ _ _ hi hb, (KeepsOthers.setCell A _ v).same _ _ hl rfl, (KeepsOthers.setCell A _ v).same _ _ hk rfl⟩
    · -- one round
      rintro pre x W ⟨hi, hl, hk⟩ hpre
      have hlt : w.heap.size + 1 < W.heap.size := (Array.getElem?_eq_some_iff.1 hl).1
      have hy := run_yield (P := P) (args := encs x) hl (by rw [hrec]; exact hps x)
      rw [hrec] at hy
      refine ⟨fn, _, assign, body, hy, roundIn_of_wpIn hfn (hassign _ x W _ ⟨_, run_beginRound hl (by rw [hrec]), ?_⟩)⟩
      have hl2 : (W.putObj (w.heap.size + 1) (.loop { rec .ready none with state := .busy })).heap[w.heap.size + 1]? = some (.loop { rec .ready none with state := .busy }) := World.putObj_heap_same hlt
      have hk2 : (W.putObj (w.heap.size + 1) (.loop { rec .ready none with state := .busy })).heap[w.heap.size]? = some (.deferred (some [])) := (World.putObj_heap_other (by omega)).trans hk
      have hb2 : (W.putObj (w.heap.size + 1) (.loop { rec .ready none with state := .busy })).heap[Be]? = W.heap[Be]? := World.putObj_heap_other (by omega)
      refine wpIn_mono (hbody _ pre x _ (hI.putObj _ _ _ _ _ (by omega) hi hl rfl rfl) hpre) ?_
      have fin : ∀ (jump : Option Code) (W3 : World), KeepsOthers (W.putObj (w.heap.size + 1) (.loop { rec .ready none with state := .busy })) W3 →
          (Instr.endRound (w.heap.size + 1) jump).run P W3 = .ok (.bool jump.isNone) (W3.putObj (w.heap.size + 1) (.loop (rec (if jump.isNone then .ready else .done) jump))) ∧
          W3.heap[w.heap.size + 1]? = some (.loop { rec .ready none with state := .busy }) ∧
          (W3.putObj (w.heap.size + 1) (.loop (rec (if jump.isNone then .ready else .done) jump))).heap[w.heap.size + 1]? = some (.loop (rec (if jump.isNone then .ready else .done) jump)) ∧
          (W3.putObj (w.heap.size + 1) (.loop (rec (if jump.isNone then .ready else .done) jump))).heap[w.heap.size]? = some (.deferred (some [])) := fun jump W3 hk3 => by
        have hl3 := hk3.same _ _ hl2 rfl
        have := run_endRound (P := P) jump hl3
        rw [hrec] at this ⊢
        exact ⟨this, by rw [hrec] at hl3; exact hl3, World.putObj_heap_same (Array.getElem?_eq_some_iff.1 hl3).1, (World.putObj_heap_other (by omega)).trans (hk3.same _ _ hk2 rfl)⟩
      rintro e a3 W3 hp
      cases e with
      | normal =>
        obtain ⟨hk3, hb3, hi3⟩ := hp
        obtain ⟨hr, hl3, hl4, hk4⟩ := fin none W3 hk3
        exact ⟨_, _, hr, .inl ⟨rfl, ⟨hI.putObj _ _ _ _ _ (by omega) hi3 hl3 rfl rfl, hl4, hk4⟩, ((World.putObj_heap_other (by omega)).trans hb3).trans hb2⟩⟩
      | ret =>
        obtain ⟨hk3, hi3⟩ := hp
        obtain ⟨hr, hl3, hl4, hk4⟩ := fin (some .ret) W3 hk3
        exact ⟨_, _, hr, .inr ⟨rfl, .ret, (hIx _).putObj _ _ _ _ _ (by omega) hi3 hl3 rfl rfl, hl4, hk4⟩⟩
      | exit id =>
        obtain ⟨hk3, hi3⟩ := hp
        obtain ⟨hr, hl3, hl4, hk4⟩ := fin (some (.exit id)) W3 hk3
        exact ⟨_, _, hr, .inr ⟨rfl, .exit id, (hIx _).putObj _ _ _ _ _ (by omega) hi3 hl3 rfl rfl, hl4, hk4⟩⟩
      | goto t => exact hp.elim
      | panic ch => exact hp.elim
      | outgrown => exact hp.elim
    · -- behind the iterator
      rintro e W2 ⟨⟨v, rfl⟩, (⟨hi, hl, hk⟩ | ⟨pre, hpre, c, hi, hl, hk⟩)⟩
      · exact ⟨none, _, by have := run_endLoop (P := P) hl (by rw [hrec]; simp); rw [hrec] at this; exact this, hdone _ _ (hI.putObj _ _ _ _ _ (by omega) hi hl rfl rfl) ((World.putObj_heap_other (by omega)).trans hk) (Nat.le_refl _)⟩
      · exact ⟨some c, _, by have := run_endLoop (P := P) hl (by rw [hrec]; simp); rw [hrec] at this; exact this, hstop _ c pre _ hpre ((hIx c).putObj _ _ _ _ _ (by omega) hi hl rfl rfl) ((World.putObj_heap_other (by omega)).trans hk) (Nat.le_refl _)⟩

/-! ### Nothing is frozen by an append -/
theorem fz_alloc (w : World) (o : Obj) (ho : ∀ cs e f, o = .cells cs e f → f = (0, 0)) (a : Addr) : (w.alloc o).frozen? a = w.frozen? a := by
  by_cases h : a.block = w.heap.size
  · have h1 : (w.alloc o).heap[a.block]? = some o := by rw [h]; exact World.alloc_heap_new w o
    have h2 : w.heap[a.block]? = none := by rw [h]; simp
    unfold World.frozen?
    rw [h1, h2]
    cases o with
    | cells cs e f => have := ho cs e f rfl; subst this; simp
    | _ => rfl
  · by_cases hlt : a.block < w.heap.size
    · exact frozen_same (Below.heap_alloc _ _ _ hlt)
    · have h1 : (w.alloc o).heap[a.block]? = none := Array.getElem?_eq_none (by have := World.size_alloc w o; omega)
      have h2 : w.heap[a.block]? = none := Array.getElem?_eq_none (by omega)
      exact frozen_same (h1.trans h2.symm)
theorem fz_set (w : World) (b : Addr) (v : Value) (a : Addr) : (w.setCell b v).frozen? a = w.frozen? a := by rw [World.frozen?_setCell]
theorem fz_putObj (w : World) {l : Nat} {o : Obj} (o' : Obj) (hl : w.heap[l]? = some o) (ho : o.isCells = false) (ho' : o'.isCells = false) (a : Addr) : (w.putObj l o').frozen? a = w.frozen? a := by
  by_cases h : a.block = l
  · have h1 : (w.putObj l o').heap[a.block]? = some o' := by rw [h]; exact World.putObj_heap_same (Array.getElem?_eq_some_iff.1 hl).1
    have nc : ∀ o : Obj, o.isCells = false → ∀ w : World, w.heap[a.block]? = some o → w.frozen? a = false := fun o ho w hw => by
      unfold World.frozen?
      rw [hw]
      cases o <;> first | rfl | (simp [Obj.isCells] at ho)
    rw [nc o' ho' _ h1, nc o ho w (by rw [h]; exact hl)]
  · exact frozen_same (World.putObj_heap_other h)
theorem fz_append {P : Program} {w : World} {base : Nat} {t ty e : TypeId} {i : TypeInfo} {z : Value} (ht : P.underlying t = some (.slice e)) (hi : P.info? e = some i) (hz : i.zero = some z)
    {v : Value} {n : Nat} {xs : List Value} (hown : w.ownsRow base e i.size v n xs) {a : Addr} {m c : Nat} {news : List Value} (hl : news.length = m * i.size) (hnews : ∀ j u, news[j]? = some u → w.cell? (a.add j) = some u) (h1 : ∀ u ∈ news, u.oneCell' = true)
    (hm : 0 < m) (h63 : n + m ≤ maxLen) (hbytes : (n + m) * i.bytes ≤ 140737488355328) {v' : Value} {w' : World} (hrun : (Builtin.append_ #[t, t] ty #[v, .slice (some a) m c]).run P w = .ok v' w') (b : Addr) : w'.frozen? b = w.frozen? b := by
  have hsmall : n + m ≤ 9223372036854775807 := by simp only [maxLen] at h63; omega
  have new : ∀ cs : Array Value, (w.drew.alloc (.cells cs e)).frozen? b = w.frozen? b := fun cs => (fz_alloc w.drew _ (fun _ _ _ h => by cases h; rfl) b).trans rfl
  rcases hown.2 with ⟨rfl, rfl⟩ | ⟨g, cap, cur, rfl, _, hg, _, _, hcs, _⟩
  · rw [run_append_nil (P := P) w t ty e i z ht hi hz a m c news hl hnews hm (by omega) (by simp only [Nat.zero_add] at hbytes; omega)] at hrun
    cases hrun; exact new _
  · by_cases hroom : n + m ≤ cap
    · have hfit : n * i.size + news.length ≤ cur.size := by rw [hl, hcs, ← Nat.add_mul]; exact Nat.mul_le_mul_right _ hroom
      rw [run_append_room (P := P) w t ty e i ht hi g n cap cur hg a m c news hl hnews h1 hroom hfit] at hrun
      cases hrun
      by_cases hb : b.block = g
      · have := setRow_heap w g cur (cur.toList.take (n * i.size) ++ news ++ cur.toList.drop (n * i.size + news.length)).toArray e (0, 0) hg
        unfold World.frozen?
        rw [hb, this, hg]
      · exact frozen_same (setRow_other w g b.block _ hb)
    · have holds : ∀ j u, xs[j]? = some u → w.cell? ((⟨g, 0, none⟩ : Addr).add j) = some u := hown.cells (g := g) rfl
      rw [run_append_grow (P := P) w t ty e i z ht hi hz ⟨g, 0, none⟩ n cap xs hown.1 holds a m c news hl hnews (by omega) (by omega) (growslice_fits (by omega) hbytes)] at hrun
      cases hrun; exact new _
/-- An append to a row of one's own, in a walk; nothing is frozen by it. -/
theorem wpListIn_append_fz {F : Fence} {k : Nat} {P : Program} (w : World) {ops : Array Oper} {rest : List Oper} {o : Oper} {a : Act} {Q : Exit → Act → World → Prop}
    (hg : o.guard = none) (s x : Operand) (t : TypeId) (hop : o.op = Op.call { callee := Callee.builtin Builtin.append, args := #[s, x], argTypes := #[t, t] })
    (base : Nat) (e : TypeId) (i : TypeInfo) (z : Value) (size bytes : Nat) (h1 : P.underlying t = some (.slice e)) (h2 : P.info? e = some i) (h3 : i.zero = some z) (h4 : i.size = size) (h5 : i.bytes = bytes) (h6 : z.cells.size = size) (h7 : 0 < size)
    (v : Value) (n : Nat) (xs : List Value) (hs : a.eval s = v) (hown : w.ownsRow base e size v n xs) (ad : Addr) (m c : Nat) (news : List Value) (hx : a.eval x = .slice (some ad) m c) (hn : news.length = m * size)
    (hc : ∀ j u, news[j]? = some u → w.cell? (ad.add j) = some u) (h1c : ∀ u ∈ news, u.oneCell' = true) (hm : 0 < m) (b1 : n + m ≤ maxLen) (b2 : (n + m) * bytes ≤ 140737488355328) (b3 : base ≤ w.heap.size)
    (hK : ∀ v' w', w'.ownsRow base e size v' (n + m) (xs ++ news) → w.grownBy w' v.ownBlock → (v' = .slice none 0 0 ↔ v = .slice none 0 0 ∧ m = 0) → (∀ b, w'.frozen? b = w.frozen? b) → wpListIn F k P ops Q rest (a.put o.dst v') w') :
    wpListIn F k P ops Q (o :: rest) a w := by
  refine wpListIn_plain hg fun K hK' => ?_
  obtain ⟨v', w', hrun, r1, r2, r3⟩ := run_append_own (P := P) w base t o.type e i z size bytes h1 h2 h3 h4 h5 h6 h7 v n xs hown ad m c news hn hc h1c b1 b2 b3
  subst h4; subst h5
  have hz := fun b => fz_append h1 h2 h3 hown hn hc h1c hm b1 b2 hrun b
  unfold Oper.wpIn
  refine ⟨?_, ?_⟩
  · simp [Oper.about, hop, resolve, Target.leads, Sem.run_pure]
  · rw [Oper.semAt_plain F _ _ (by rw [hop]; intro c hc'; cases hc')]
    simp [execOp, hop, resolve, invoke, builtin, hs, hx, hrun, Result.andThen]
    exact hK' _ _ (hK v' w' r1 r2 r3 hz)
end Go.Co
end
