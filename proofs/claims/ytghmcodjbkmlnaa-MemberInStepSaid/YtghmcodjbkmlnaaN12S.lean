/-
  What the functions of sets of slots, of moves and of steps are to answer.
  Own text, for the claims about coterie. No program in sight.
-/
import Derived.Test.YtghmcodjbkmlnaaN11S
namespace Go.Co.N
open Go Go.Co

/-! ### Sets of slots -/
def bitI (s : Int) (i : Nat) : Bool := decide (s / 2 ^ i % 2 = 1)
abbrev c_ref08_Places : Con := ⟨[.int .u64], [.arr 64 .bool], fun x => some ((Arr.make (bitI x.1) : Arr 64 Bool), ())⟩
abbrev c_ref08_Word : Con := ⟨[.arr 64 .bool], [.int .u64], fun x => some (((word (fun i => Arr.get (x.1 : Arr 64 Bool) (i : Int)) 64 : Nat) : Int), ())⟩
def listW (s : Int) : List Int := ((List.range 64).filter (bitI s)).map fun (i : Nat) => (i : Int)
abbrev c_ref08_List : Con := ⟨[.int .u64], [.list .i], fun x => some (listW x.1, ())⟩
def cntW (s : Int) : Int := ((List.range 64).filter (bitI s)).length
abbrev c_ref08_Count : Con := ⟨[.int .u64], [.i], fun x => some (cntW x.1, ())⟩
abbrev c_ref09_Taken : Con := ⟨[.arr 64 (.st .entry)], [.int .u64], fun x => some (taken x.1, ())⟩

/-! ### Who may move -/
def personA (r : Roster) (seen : Arr 256 Bool) (w : Int) (leaves : Bool) : Int :=
  bif decide (0 ≤ w) && decide (w < 256) then
    bif Arr.get seen w then 15 else bif leaves then (bif decide (0 ≤ findR r w) then 0 else 16) else (bif decide (0 ≤ findR r w) then 17 else 0)
  else 14
abbrev c_ref09_person : Con := ⟨[.arr 64 (.st .entry), .arr 256 .bool, .i, .bool], [.i], fun x => some (personA x.1 x.2.1 x.2.2.1 x.2.2.2.1, ())⟩
def personE (r : Roster) (seen : List Int) (leaves : Bool) (w : Int) : Int :=
  bif decide (0 ≤ w) && decide (w < 256) then
    bif decide (w ∈ seen) then 15 else bif leaves then (bif decide (0 ≤ findR r w) then 0 else 16) else (bif decide (0 ≤ findR r w) then 17 else 0)
  else 14
/-- The first error of a list, behind those that stand earlier. -/
def askL (r : Roster) (leaves : Bool) : List Int → List Int → Int
  | [], _ => 0
  | w :: ws, seen => bif decide (personE r seen leaves w = 0) then askL r leaves ws (w :: seen) else personE r seen leaves w
def fits (r : Roster) (b : Batch) : Int :=
  bif goodRoster r then
    bif decide (askL r true b.Leaves [] = 0) then
      bif decide (askL r false b.Joins b.Leaves = 0) then
        bif decide ((b.Joins.length : Int) ≤ 64 - cntW (taken r) + b.Leaves.length) then 0 else 18
      else askL r false b.Joins b.Leaves
    else askL r true b.Leaves []
  else 31
abbrev c_ref09_Fits : Con := ⟨[.arr 64 (.st .entry), .st .batch], [.i], fun x => some (fits x.1 x.2.1, ())⟩

/-! ### Moves -/
def leaveGo : List Int → Roster → Roster × List Seat
  | [], r => (r, [])
  | w :: ws, r => ((leaveGo ws (Arr.put r (findR r w) zeroE)).1, ⟨w, findR r w⟩ :: (leaveGo ws (Arr.put r (findR r w) zeroE)).2)
/-- The least free slot. -/
def lowFree (r : Roster) : Int := match fstN 64 (fun s => !isOn r s) 0 with | some s => (s : Int) | none => 64
def joinGo (since : Int) : List Int → Int → Roster → Roster × List Seat
  | [], _, r => (r, [])
  | w :: ws, b, r => ((joinGo since ws (b + 1) (Arr.put r (lowFree r) ⟨w, b, since⟩)).1, ⟨w, lowFree r⟩ :: (joinGo since ws (b + 1) (Arr.put r (lowFree r) ⟨w, b, since⟩)).2)
def namesFree (r : Roster) (base n : Int) : Bool := decide (n = 0) || (decide (1 ≤ base) && decide (base ≤ 32768 - n) && allN 64 fun s => !(decide (base ≤ (ent r s).Base) && decide ((ent r s).Base < base + n)))
abbrev zeroR : Roster := Vector.replicate 64 St.entry.zero
structure Moved where
  r : Roster
  left : List Seat
  joined : List Seat
  e : Int
def moveGo (r : Roster) (b : Batch) (since base : Int) : Moved := ⟨(joinGo since b.Joins base (leaveGo b.Leaves r).1).1, (leaveGo b.Leaves r).2, (joinGo since b.Joins base (leaveGo b.Leaves r).1).2, 0⟩
def move (r : Roster) (b : Batch) (since base : Int) : Moved :=
  bif decide (fits r b = 0) then
    bif decide (1 ≤ since) && decide (since ≤ 200) then
      bif namesFree r base b.Joins.length then moveGo r b since base else ⟨zeroR, [], [], 3⟩
    else ⟨zeroR, [], [], 19⟩
  else ⟨zeroR, [], [], fits r b⟩
abbrev c_ref09_Move : Con := ⟨[.arr 64 (.st .entry), .st .batch, .i, .i], [.arr 64 (.st .entry), .list (.st .seat), .list (.st .seat), .i],
  fun x => some ((move x.1 x.2.1 x.2.2.1 x.2.2.2.1).r, (move x.1 x.2.1 x.2.2.1 x.2.2.2.1).left, (move x.1 x.2.1 x.2.2.1 x.2.2.2.1).joined, (move x.1 x.2.1 x.2.2.1 x.2.2.2.1).e, ())⟩

/-! ### Steps -/
/-- The inner nodes above these seats. -/
def replaced (l : List Seat) : Int := (word (fun v => l.any fun s => below v (leaf s.Slot)) 21 : Nat)
abbrev c_ref11_Replaced : Con := ⟨[.list (.st .seat)], [.int .u32], fun x => some (replaced x.1, ())⟩
structure Stepped where
  t : Tree
  left : List Seat
  joined : List Seat
  e : Int
abbrev zeroT : Tree := St.zero .tree
def goneOf (r : Roster) (l : List Int) : List Seat := l.map fun w => ⟨w, findR r w⟩
def stepTurn (t : Tree) (b : Batch) : Keys × Int × Int := turn t.Keys (replaced (goneOf t.Roster b.Leaves)) t.Fresh
def stepMove (t : Tree) (b : Batch) : Moved := move t.Roster b (t.Epoch + 1) (stepTurn t b).2.1
def nextT (t : Tree) (b : Batch) : Stepped :=
  bif goodTree t then
    bif decide (t.Epoch = 200) then ⟨zeroT, [], [], 19⟩
    else bif decide (fits t.Roster b = 0) then
      bif decide ((stepTurn t b).2.2 = 0) then
        bif decide ((stepMove t b).e = 0) then ⟨⟨t.Epoch + 1, (stepTurn t b).2.1 + (stepMove t b).joined.length, (stepTurn t b).1, (stepMove t b).r⟩, (stepMove t b).left, (stepMove t b).joined, 0⟩
        else ⟨zeroT, [], [], (stepMove t b).e⟩
      else ⟨zeroT, [], [], (stepTurn t b).2.2⟩
    else ⟨zeroT, [], [], fits t.Roster b⟩
  else ⟨zeroT, [], [], 31⟩
abbrev c_ref11_Next : Con := ⟨[.st .tree, .st .batch], [.st .tree, .list (.st .seat), .list (.st .seat), .i],
  fun x => some ((nextT x.1 x.2.1).t, (nextT x.1 x.2.1).left, (nextT x.1 x.2.1).joined, (nextT x.1 x.2.1).e, ())⟩

/-! ### Messages of steps -/
def itemOf (t : Tree) (v fr : Int) : Item := ⟨v, fr, ⟨(ofT t fr).1, (ofT t v).1⟩⟩
abbrev c_ref12_item : Con := ⟨[.st .tree, .i, .i], [.st .item], fun x => some (itemOf x.1 x.2.1 x.2.2.1, ())⟩
def pathG (s : Int) : Arr 3 Int := bif decide (0 ≤ leaf s) then pathN s else zero3
/-- A replaced node's items: under its children's keys. -/
def nodeItems (t : Tree) (m : Int) (v : Nat) : List Item := bif inB m v then ((List.range 4).filter fun (i : Nat) => belowR t.Roster (child v i)).map fun (i : Nat) => itemOf t v (child v i) else []
/-- A joiner's items: what isn't replaced, under its leaf's key. -/
def joinItems (t : Tree) (m s : Int) : List Item := ((List.range 3).filter fun (i : Nat) => !inB m (Arr.get (pathG s) (i : Int))).map fun (i : Nat) => itemOf t (Arr.get (pathG s) (i : Int)) (leaf s)
def itemsUp (t : Tree) (m : Int) : Nat → List Item
  | 0 => []
  | n + 1 => nodeItems t m n ++ itemsUp t m n
def items (t : Tree) (left joined : List Seat) : List Item := itemsUp t (replaced left) 21 ++ joined.flatMap fun s => joinItems t (replaced left) s.Slot
abbrev c_ref12_Items : Con := ⟨[.st .tree, .list (.st .seat), .list (.st .seat)], [.list (.st .item)], fun x => guardK (decide (List.length x.2.2.1 ≤ 64)) (some (items x.1 x.2.1 x.2.2.1, ()))⟩
def nextR (t : Tree) (b : Batch) : Tree × Rekey × Int :=
  bif decide ((nextT t b).e = 0) then ((nextT t b).t, ⟨(nextT t b).t.Epoch, (nextT t b).left, (nextT t b).joined, items (nextT t b).t (nextT t b).left (nextT t b).joined⟩, 0)
  else (zeroT, St.zero .rekey, (nextT t b).e)
abbrev c_ref12_Next : Con := ⟨[.st .tree, .st .batch], [.st .tree, .st .rekey, .i], fun x => some ((nextR x.1 x.2.1).1, (nextR x.1 x.2.1).2.1, (nextR x.1 x.2.1).2.2, ())⟩
end Go.Co.N
