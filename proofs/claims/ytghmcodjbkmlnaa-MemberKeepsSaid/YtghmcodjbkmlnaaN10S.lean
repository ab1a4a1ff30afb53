/-
  What the functions of keys and of the ratchet are to answer.
  Own text, for the claims about coterie. No program in sight.
-/
import Derived.Test.YtghmcodjbkmlnaaN0
namespace Go.Co.N
open Go Go.Co

/-! ### Keys -/
def good (k : Key) : Bool := decide (1 ≤ k.Base) && decide (k.Base ≤ 65535) && decide (0 ≤ k.Step) && decide (k.Step ≤ 255)
theorem good_iff {k : Key} : good k = true ↔ 1 ≤ k.Base ∧ k.Base ≤ 65535 ∧ 0 ≤ k.Step ∧ k.Step ≤ 255 := by
  simp [good, and_assoc]
abbrev c_key_Good : Con := ⟨[.st .key], [.bool], fun x => some (good x.1, ())⟩
abbrev c_ref02_Good : Con := ⟨[.st .key], [.bool], fun x => some (good x.1, ())⟩
/-- The key n steps on. -/
def ahead (k : Key) (n : Int) : Key × Int :=
  if good k = true then if 0 ≤ n ∧ k.Step + n ≤ 255 then (⟨k.Base, k.Step + n⟩, 0) else (⟨0, 0⟩, 4) else (⟨0, 0⟩, 3)
abbrev c_key_Ahead : Con := ⟨[.st .key, .i], [.st .key, .i], fun x => some ((ahead x.1 x.2.1).1, (ahead x.1 x.2.1).2, ())⟩
abbrev c_ref02_Ahead : Con := ⟨[.st .key, .i], [.st .key, .i], fun x => some ((ahead x.1 x.2.1).1, (ahead x.1 x.2.1).2, ())⟩
def gives (a b : Key) : Bool := good a && good b && decide (a.Base = b.Base) && decide (a.Step ≤ b.Step)
theorem gives_iff {a b : Key} : gives a b = true ↔ good a = true ∧ good b = true ∧ a.Base = b.Base ∧ a.Step ≤ b.Step := by simp [gives, and_assoc]
abbrev c_ref02_Gives : Con := ⟨[.st .key, .st .key], [.bool], fun x => some (gives x.1 x.2.1, ())⟩

/-! ### Masks of inner nodes -/
/-- Is the node in the mask? -/
def inB (m v : Int) : Bool := decide (0 ≤ v) && decide (v < 32) && decide (m / 2 ^ v.toNat % 2 = 1)
abbrev c_ref01_In : Con := ⟨[.int .u32, .i], [.bool], fun x => some (inB x.1 x.2.1, ())⟩
/-- How many of the nodes below n are in the mask. -/
def cntTo (m : Int) : Nat → Int
  | 0 => 0
  | n + 1 => cntTo m n + (if inB m (n : Int) = true then 1 else 0)
abbrev c_ref10_count : Con := ⟨[.int .u32], [.i], fun x => some (cntTo x.1 21, ())⟩
abbrev c_bits_OnesCount32 : Con := ⟨[.int .u32], [.i], fun x => some (cntTo x.1 32, ())⟩

/-! ### The ratchet -/
abbrev bas (k : Keys) (i : Int) : Int := (Arr.get k i).Base
abbrev stp (k : Keys) (i : Int) : Int := (Arr.get k i).Step
def okAt (k : Keys) (v : Nat) : Bool := good (Arr.get k v) && decide (bas k v < 32768) && allN v fun w => !decide (bas k w = bas k v)
def goodKeys (k : Keys) : Bool := allN 21 (okAt k)
theorem okAt_iff {k : Keys} {v : Nat} : okAt k v = true ↔ good (Arr.get k v) = true ∧ bas k v < 32768 ∧ ∀ w, w < v → bas k w ≠ bas k v := by
  unfold okAt
  simp [allN_iff, and_assoc]
theorem goodKeys_iff {k : Keys} : goodKeys k = true ↔ ∀ v : Nat, v < 21 → good (Arr.get k v) = true ∧ bas k v < 32768 ∧ ∀ w, w < v → bas k w ≠ bas k v := by
  unfold goodKeys; rw [allN_iff]
  exact ⟨fun h v hv => okAt_iff.1 (h v hv), fun h v hv => okAt_iff.2 (h v hv)⟩
def chk (k : Keys) : Int := bif goodKeys k then 0 else 31
abbrev c_ratchet_Check : Con := ⟨[.arr 21 (.st .key)], [.i], fun x => some (chk x.1, ())⟩
abbrev c_ref10_Check : Con := ⟨[.arr 21 (.st .key)], [.i], fun x => some (chk x.1, ())⟩
/-- May these names be given? -/
def free (k : Keys) (f n : Int) : Bool := decide (n = 0) || (decide (1 ≤ f) && decide (f ≤ 32768 - n) && allN 21 fun v => !(decide (f ≤ bas k v) && decide (bas k v < f + n)))
abbrev c_ratchet_free : Con := ⟨[.arr 21 (.st .key), .i, .i], [.bool], fun x => guardK (decide (0 ≤ (x.2.2.1 : Int)) && decide ((x.2.2.1 : Int) ≤ 32)) (some (free x.1 x.2.1 x.2.2.1, ()))⟩
abbrev zeroK : Keys := Vector.replicate 21 St.key.zero
/-- A node's key behind a turn. -/
def turnedAt (k : Keys) (m f : Int) (v : Nat) : Key := if inB m v = true then ⟨f + (cntTo m 21 - cntTo m (v + 1)), 0⟩ else ⟨bas k v, stp k v + 1⟩
def turned (k : Keys) (m f : Int) : Keys := Arr.make (turnedAt k m f)
def turn (k : Keys) (m f : Int) : Keys × Int × Int :=
  bif goodKeys k then
    bif decide (m < 2097152) then
      bif free k f (cntTo m 21) then
        bif allN 21 (fun v => inB m v || decide (stp k v < 255)) then (turned k m f, f + cntTo m 21, 0) else (zeroK, 0, 4)
      else (zeroK, 0, 3)
    else (zeroK, 0, 2)
  else (zeroK, 0, 31)
abbrev c_ratchet_Turn : Con := ⟨[.arr 21 (.st .key), .int .u32, .i], [.arr 21 (.st .key), .i, .i], fun x => some ((turn x.1 x.2.1 x.2.2.1).1, (turn x.1 x.2.1 x.2.2.1).2.1, (turn x.1 x.2.1 x.2.2.1).2.2, ())⟩
abbrev c_ref10_Turn : Con := ⟨[.arr 21 (.st .key), .int .u32, .i], [.arr 21 (.st .key), .i, .i], fun x => some ((turn x.1 x.2.1 x.2.2.1).1, (turn x.1 x.2.1 x.2.2.1).2.1, (turn x.1 x.2.1 x.2.2.1).2.2, ())⟩
def leafAt (e : Entry) (n : Int) : Key × Int :=
  if e.Base = 0 then (⟨0, 0⟩, 16)
  else if e.Base < 1 ∨ 32768 ≤ e.Base ∨ e.Since < 1 ∨ 200 < e.Since then (⟨0, 0⟩, 31)
  else if n < e.Since then (⟨0, 0⟩, 21)
  else if e.Since + 255 < n then (⟨0, 0⟩, 4)
  else (⟨e.Base, n - e.Since⟩, 0)
abbrev c_ratchet_LeafAt : Con := ⟨[.st .entry, .i], [.st .key, .i], fun x => some ((leafAt x.1 x.2.1).1, (leafAt x.1 x.2.1).2, ())⟩
abbrev c_ref10_LeafAt : Con := ⟨[.st .entry, .i], [.st .key, .i], fun x => some ((leafAt x.1 x.2.1).1, (leafAt x.1 x.2.1).2, ())⟩
abbrev zeroP : Path := Vector.replicate 3 St.key.zero
def follow (k : Path) (n : Int) : Path × Int :=
  if (ahead (Arr.get k 0) n).2 = 3 ∨ (ahead (Arr.get k 1) n).2 = 3 ∨ (ahead (Arr.get k 2) n).2 = 3 then (zeroP, 3)
  else if (ahead (Arr.get k 0) n).2 = 4 ∨ (ahead (Arr.get k 1) n).2 = 4 ∨ (ahead (Arr.get k 2) n).2 = 4 then (zeroP, 4)
  else (Arr.put (Arr.put (Arr.put k 0 (ahead (Arr.get k 0) n).1) 1 (ahead (Arr.get k 1) n).1) 2 (ahead (Arr.get k 2) n).1, 0)
abbrev c_ratchet_Follow : Con := ⟨[.arr 3 (.st .key), .i], [.arr 3 (.st .key), .i], fun x => some ((follow x.1 x.2.1).1, (follow x.1 x.2.1).2, ())⟩
abbrev c_ref10_Follow : Con := ⟨[.arr 3 (.st .key), .i], [.arr 3 (.st .key), .i], fun x => some ((follow x.1 x.2.1).1, (follow x.1 x.2.1).2, ())⟩

/-! ### The laws of chapter 10 -/
def plain (s : Int) : Keys := Arr.make fun v => ⟨v + 1, s⟩
abbrev c_law10_plain : Con := ⟨[.i], [.arr 21 (.st .key)], fun x => some (plain x.1, ())⟩
abbrev c_law10_lives : Con := c_True []
abbrev c_law10_RatchetTurns : Con := c_True [.arr 21 (.st .key), .int .u32, .i]
abbrev c_law10_RatchetOneWay : Con := c_True [.arr 21 (.st .key), .int .u32, .i]
abbrev c_law10_RatchetOrder : Con := c_True [.arr 21 (.st .key), .int .u32, .i]
abbrev c_law10_RatchetLeaves : Con := c_True [.st .entry, .i]
abbrev c_law10_RatchetFollows : Con := c_True [.arr 3 (.st .key), .i]
abbrev c_law10_RatchetRuns : Con := c_True [.arr 21 (.st .key), .arr 3 .i, .i]
end Go.Co.N
