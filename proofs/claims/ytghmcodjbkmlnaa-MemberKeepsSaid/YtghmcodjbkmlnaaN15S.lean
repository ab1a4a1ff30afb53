/-
  Members: what messages of steps do to a device's state. What their functions are to answer.
  Own text, for the claims about coterie. No program in sight.
-/
import Derived.Test.YtghmcodjbkmlnaaN17S
namespace Go.Co.N
open Go Go.Co

/-- What is in a box, for who has k. -/
def openB (b : Box) (k : Key) : Key × Int :=
  bif goodBox b && good k then bif gives k b.Under then (b.Load, 0) else (⟨0, 0⟩, 5) else (⟨0, 0⟩, 3)
abbrev c_key_Open : Con := ⟨[.st .box, .st .key], [.st .key, .i], fun x => some ((openB x.1 x.2.1).1, (openB x.1 x.2.1).2, ())⟩
/-- The first item for a node, from that one. -/
def firstB (r : Rekey) (v fr : Int) : Option Item := r.Items.find? fun i => decide (i.Node = v) && decide (i.From = fr)
def aboveM (s : Int) : Int := (word (fun v => !decide (bw .and .u64 (mask v) s = 0)) 21 : Nat)
abbrev c_shape_Above : Con := ⟨[.int .u64], [.int .u32], fun x => some (aboveM x.1, ())⟩
abbrev c_plan_Replaced : Con := ⟨[.list (.st .seat)], [.int .u32], fun x => some (replaced x.1, ())⟩
abbrev c_member_Restart : Con := ⟨[.st .member], [.st .member], fun x => some ({ x.1 with Behind := 0 }, ())⟩
def seated (c : Card) : Member × Int := bif goodCard c then (⟨c.Who, c.Slot, c.Epoch, c.Leaf, zeroP, false, false, 0⟩, 0) else (zeroM, 30)
abbrev c_member_Seated : Con := ⟨[.st .card], [.st .member, .i], fun x => some ((seated x.1).1, (seated x.1).2, ())⟩
abbrev c_ref15_Seated : Con := ⟨[.st .card], [.st .member, .i], fun x => some ((seated x.1).1, (seated x.1).2, ())⟩
/-- What the first item for a node, from that one, gives to who has k. -/
def openI (r : Rekey) (v fr : Int) (k : Key) : Key × Int := match firstB r v fr with
  | some i => openB i.Box k
  | none => (⟨0, 0⟩, 23)
abbrev c_member_find : Con := ⟨[.st .rekey, .i, .i], [.st .box, .bool], fun x => some ((firstB x.1 x.2.1 x.2.2.1).elim (St.zero .box) Item.Box, (firstB x.1 x.2.1 x.2.2.1).isSome, ())⟩
abbrev c_member_open : Con := ⟨[.st .rekey, .i, .i, .st .key], [.st .key, .i], fun x => some ((openI x.1 x.2.1 x.2.2.1 x.2.2.2.1).1, (openI x.1 x.2.1 x.2.2.1 x.2.2.2.1).2, ())⟩
abbrev c_key_Gives : Con := ⟨[.st .key, .st .key], [.bool], fun x => some (gives x.1 x.2.1, ())⟩
/-- Up the path, node by node: the path then, and the errno. -/
def upP (step : Path → Int → Int → Key → Key × Int) (s : Int) : Nat → Nat → Path → Int → Key → Path × Int
  | 0, _, p, _, _ => (p, 0)
  | d + 1, i, p, b, k =>
    bif decide ((step p (i : Int) b k).2 = 0) then upP step s d (i + 1) (Arr.put p (i : Int) (step p (i : Int) b k).1) (Arr.get (pathG s) (i : Int)) (step p (i : Int) b k).1
    else (p, (step p (i : Int) b k).2)
def enterStep (m : Member) (r : Rekey) (_ : Path) (i b : Int) (k : Key) : Key × Int :=
  bif decide ((openI r (Arr.get (pathG m.Slot) i) (leaf m.Slot) m.Leaf).2 = 23) then openI r (Arr.get (pathG m.Slot) i) b k else openI r (Arr.get (pathG m.Slot) i) (leaf m.Slot) m.Leaf
def enterM (m : Member) (r : Rekey) : Member × Int :=
  let z := upP (enterStep m r) m.Slot 3 0 m.Path (leaf m.Slot) m.Leaf
  ({ m with Path := z.1, Has := bif decide (z.2 = 0) then true else m.Has }, z.2)
def followStep (m : Member) (r : Rekey) (p : Path) (i b : Int) (k : Key) : Key × Int :=
  bif inB (replaced r.Leaves) (Arr.get (pathG m.Slot) i) then openI r (Arr.get (pathG m.Slot) i) b k else ahead (Arr.get p i) 1
def followM (m : Member) (r : Rekey) : Member × Int :=
  bif decide ((ahead m.Leaf 1).2 = 0) then
    let z := upP (followStep m r) m.Slot 3 0 m.Path (leaf m.Slot) (ahead m.Leaf 1).1
    ({ m with Leaf := (ahead m.Leaf 1).1, Epoch := r.Epoch, Path := z.1 }, z.2)
  else (m, (ahead m.Leaf 1).2)
def nextM (m : Member) (r : Rekey) : Member × Int :=
  bif decide (r.Epoch = m.Epoch) then
    (bif r.Joins.any (fun s => decide ((⟨m.Who, m.Slot⟩ : Seat) = s)) then enterM m r else (m, 22))
  else bif r.Leaves.any (fun s => decide (s.Who = m.Who)) then (outM m.Who r.Epoch, 0) else followM m r
abbrev c_member_enter : Con := ⟨[.st .member, .st .rekey], [.st .member, .i], fun x => some ((enterM x.1 x.2.1).1, (enterM x.1 x.2.1).2, ())⟩
abbrev c_member_follow : Con := ⟨[.st .member, .st .rekey], [.st .member, .i], fun x => some ((followM x.1 x.2.1).1, (followM x.1 x.2.1).2, ())⟩
abbrev c_member_next : Con := ⟨[.st .member, .st .rekey], [.st .member, .i], fun x => some ((nextM x.1 x.2.1).1, (nextM x.1 x.2.1).2, ())⟩
def calm (m : Member) : Member := bif decide (m.Behind ≤ m.Epoch) then { m with Behind := 0 } else m
def applyM (m : Member) (r : Rekey) : Member × Int :=
  bif decide (kind m ≤ 0) then (m, 30)
  else bif decide (kind m = 1) then (m, 20)
  else bif !goodRekey r then (m, 13)
  else bif decide (r.Epoch < m.Epoch) || (decide (kind m = 3) && decide (r.Epoch = m.Epoch)) then (m, 21)
  else bif decide (m.Epoch + 1 < r.Epoch) || (decide (kind m = 2) && decide (m.Epoch < r.Epoch)) then ({ m with Behind := max m.Behind r.Epoch }, 22)
  else bif decide ((nextM m r).2 = 0) then (calm (nextM m r).1, 0) else (m, (nextM m r).2)
abbrev c_member_Apply : Con := ⟨[.st .member, .st .rekey], [.st .member, .i], fun x => some ((applyM x.1 x.2.1).1, (applyM x.1 x.2.1).2, ())⟩

/-! ### The laws of chapter 15 -/
/-- The tree behind a first step with which 1, 2 and 3 join. -/
def threeT : Tree := (nextR startT ⟨[], [1, 2, 3]⟩).1
abbrev c_law15_three : Con := ⟨[], [.st .tree], fun _ => some (threeT, ())⟩
abbrev c_law15_lives : Con := c_True []
abbrev c_law15_MemberKinds : Con := c_True [.st .member, .st .card]
abbrev c_law15_MemberKeeps : Con := c_True [.st .member, .st .rekey]
abbrev c_law15_MemberOneWay : Con := c_True [.st .member, .st .rekey]
abbrev c_law15_MemberInStep : Con := c_True [.st .tree, .st .batch]
abbrev c_law15_MemberRuns : Con := c_True [.st .tree, .list (.st .batch), .list .i]
end Go.Co.N
