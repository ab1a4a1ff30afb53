/-
  What the functions of shapes, rosters and trees are to answer.
  Own text, for the claims about coterie. No program in sight.
-/
import Derived.Test.YtghmcodjbkmlnaaN10S
namespace Go.Co.N
open Go Go.Co

/-! ### The tree's shape -/
def node (v : Int) : Bool := decide (0 ≤ v) && decide (v < 85)
theorem node_iff {v : Int} : node v = true ↔ 0 ≤ v ∧ v < 85 := by simp [node]
abbrev c_ref01_Node : Con := ⟨[.i], [.bool], fun x => some (node x.1, ())⟩
def child (v i : Int) : Int := if 0 ≤ v ∧ v < 21 ∧ 0 ≤ i ∧ i < 4 then 4 * v + 1 + i else -1
abbrev c_ref01_Child : Con := ⟨[.i, .i], [.i], fun x => some (child x.1 x.2.1, ())⟩
def par (v : Int) : Int := if 1 ≤ v ∧ v < 85 then (v - 1) / 4 else -1
abbrev c_ref01_Parent : Con := ⟨[.i], [.i], fun x => some (par x.1, ())⟩
def leaf (s : Int) : Int := if 0 ≤ s ∧ s < 64 then 21 + s else -1
abbrev c_ref01_Leaf : Con := ⟨[.i], [.i], fun x => some (leaf x.1, ())⟩
abbrev c_shape_Leaf : Con := ⟨[.i], [.i], fun x => some (leaf x.1, ())⟩
def slot (v : Int) : Int := if 21 ≤ v ∧ v < 85 then v - 21 else -1
abbrev c_shape_Slot : Con := ⟨[.i], [.i], fun x => some (slot x.1, ())⟩
def level (v : Int) : Int := if 0 ≤ v ∧ v < 85 then if v < 1 then 0 else if v < 5 then 1 else if v < 21 then 2 else 3 else -1
abbrev c_shape_Level : Con := ⟨[.i], [.i], fun x => some (level x.1, ())⟩
/-- The first node of a level. -/
def firstOf (l : Int) : Int := if l = 0 then 0 else if l = 1 then 1 else if l = 2 then 5 else 21
abbrev c_shape_first : Con := ⟨[.i], [.i], fun x => guardK (decide (0 ≤ (x.1 : Int)) && decide ((x.1 : Int) ≤ 3)) (some (firstOf x.1, ()))⟩
/-- The nodes above a slot's leaf. -/
def pathAt (s : Int) (i : Nat) : Int := if i = 0 then 5 + s / 4 else if i = 1 then 1 + s / 16 else 0
def pathN (s : Int) : Arr 3 Int := Arr.make (pathAt s)
abbrev zero3 : Arr 3 Int := Vector.replicate 3 0
abbrev c_ref01_Path : Con := ⟨[.i], [.arr 3 .i, .bool], fun x => some (bif decide (0 ≤ leaf x.1) then pathN x.1 else zero3, decide (0 ≤ leaf x.1), ())⟩
abbrev c_shape_Path : Con := ⟨[.i], [.arr 3 .i, .bool], fun x => some (bif decide (0 ≤ leaf x.1) then pathN x.1 else zero3, decide (0 ≤ leaf x.1), ())⟩
/-- Is w below v, or v itself? -/
def below (v w : Int) : Bool := node v && node w && (decide (v = w) || decide (v = par w) || decide (v = par (par w)) || decide (v = par (par (par w))))
abbrev c_ref01_Below : Con := ⟨[.i, .i], [.bool], fun x => some (below x.1 x.2.1, ())⟩
/-- How many slots are below a node of a level. -/
def widthOf (l : Int) : Int := if l = 0 then 64 else if l = 1 then 16 else if l = 2 then 4 else 1
def spanOf (v : Int) : Int × Int := ((v - firstOf (level v)) * widthOf (level v), widthOf (level v))
abbrev c_shape_span : Con := ⟨[.i], [.i, .i], fun x => guardK (node x.1) (some ((spanOf x.1).1, (spanOf x.1).2, ()))⟩
/-- The word of a set of slots. -/
def word (p : Nat → Bool) : Nat → Nat
  | 0 => 0
  | n + 1 => word p n + (bif p n then 2 ^ n else 0)
def mask (v : Int) : Int := (word (fun s => below v (leaf s)) 64 : Nat)
abbrev c_shape_Mask : Con := ⟨[.i], [.int .u64], fun x => some (mask x.1, ())⟩

/-! ### Rosters -/
abbrev ent (r : Roster) (i : Int) : Entry := Arr.get r i
def goodE (e : Entry) : Bool := decide (0 ≤ e.Who) && decide (e.Who < 256) && decide (1 ≤ e.Base) && decide (e.Base < 32768) && decide (1 ≤ e.Since) && decide (e.Since ≤ 200)
theorem goodE_iff {e : Entry} : goodE e = true ↔ 0 ≤ e.Who ∧ e.Who < 256 ∧ 1 ≤ e.Base ∧ e.Base < 32768 ∧ 1 ≤ e.Since ∧ e.Since ≤ 200 := by
  simp [goodE, and_assoc]
abbrev c_roster_right : Con := ⟨[.st .entry], [.bool], fun x => some (goodE x.1, ())⟩
abbrev c_ref09_Right : Con := ⟨[.st .entry], [.bool], fun x => some (goodE x.1, ())⟩
abbrev zeroE : Entry := ⟨0, 0, 0⟩
def entOk (r : Roster) (i : Nat) : Bool := decide (ent r i = zeroE) || (goodE (ent r i) && allN i fun k => decide ((ent r k).Base = 0) || (!decide ((ent r k).Who = (ent r i).Who) && !decide ((ent r k).Base = (ent r i).Base)))
def goodRoster (r : Roster) : Bool := allN 64 (entOk r)
def chkR (r : Roster) : Int := bif goodRoster r then 0 else 31
abbrev c_roster_Check : Con := ⟨[.arr 64 (.st .entry)], [.i], fun x => some (chkR x.1, ())⟩
abbrev c_ref09_Check : Con := ⟨[.arr 64 (.st .entry)], [.i], fun x => some (chkR x.1, ())⟩
def isOn (r : Roster) (s : Nat) : Bool := !decide ((ent r s).Base = 0)
def taken (r : Roster) : Int := (word (isOn r) 64 : Nat)
abbrev c_roster_Taken : Con := ⟨[.arr 64 (.st .entry)], [.int .u64], fun x => some (taken x.1, ())⟩
def findR (r : Roster) (who : Int) : Int := match fstN 64 (fun s => isOn r s && decide ((ent r s).Who = who)) 0 with | some s => (s : Int) | none => -1
abbrev c_roster_Find : Con := ⟨[.arr 64 (.st .entry), .i], [.i], fun x => some (findR x.1 x.2.1, ())⟩
abbrev c_ref09_Find : Con := ⟨[.arr 64 (.st .entry), .i], [.i], fun x => some (findR x.1 x.2.1, ())⟩

/-! ### Trees -/
def goodTree (t : Tree) : Bool := decide (0 ≤ t.Epoch) && decide (t.Epoch ≤ 200) && decide (22 ≤ t.Fresh) && decide (t.Fresh ≤ 32768) && goodKeys t.Keys && goodRoster t.Roster &&
  allN 21 (fun v => decide (bas t.Keys v < t.Fresh) && decide (stp t.Keys v ≤ t.Epoch)) &&
  allN 64 (fun s => decide ((ent t.Roster s).Base < t.Fresh) && decide ((ent t.Roster s).Since ≤ t.Epoch) && allN 21 fun v => !decide (bas t.Keys v = (ent t.Roster s).Base))
theorem goodTree_iff {t : Tree} : goodTree t = true ↔ 0 ≤ t.Epoch ∧ t.Epoch ≤ 200 ∧ 22 ≤ t.Fresh ∧ t.Fresh ≤ 32768 ∧ goodKeys t.Keys = true ∧ goodRoster t.Roster = true ∧
    (∀ v : Nat, v < 21 → bas t.Keys v < t.Fresh ∧ stp t.Keys v ≤ t.Epoch) ∧ (∀ s : Nat, s < 64 → (ent t.Roster s).Base < t.Fresh ∧ (ent t.Roster s).Since ≤ t.Epoch ∧ ∀ v : Nat, v < 21 → bas t.Keys v ≠ (ent t.Roster s).Base) := by
  unfold goodTree
  simp [allN_iff, and_assoc]
def chkT (t : Tree) : Int := bif goodTree t then 0 else 31
abbrev c_keytree_Check : Con := ⟨[.st .tree], [.i], fun x => some (chkT x.1, ())⟩
abbrev c_ref11_Check : Con := ⟨[.st .tree], [.i], fun x => some (chkT x.1, ())⟩
def startT : Tree := ⟨0, 22, Arr.make fun v => ⟨v + 1, 0⟩, Vector.replicate 64 St.entry.zero⟩
abbrev c_keytree_Start : Con := ⟨[], [.st .tree], fun _ => some (startT, ())⟩
abbrev c_ref11_Start : Con := ⟨[], [.st .tree], fun _ => some (startT, ())⟩
/-- A node's key, of a right tree. -/
def ofT (t : Tree) (v : Int) : Key × Int := bif node v then bif decide (v < 21) then (Arr.get t.Keys v, 0) else leafAt (ent t.Roster (v - 21)) t.Epoch else (⟨0, 0⟩, 2)
abbrev c_ref11_Of : Con := ⟨[.st .tree, .i], [.st .key, .i], fun x => some ((ofT x.1 x.2.1).1, (ofT x.1 x.2.1).2, ())⟩
def keyOf (t : Tree) (v : Int) : Key × Int := bif goodTree t then ofT t v else (⟨0, 0⟩, 31)
abbrev c_ref11_KeyOf : Con := ⟨[.st .tree, .i], [.st .key, .i], fun x => some ((keyOf x.1 x.2.1).1, (keyOf x.1 x.2.1).2, ())⟩
abbrev c_keytree_KeyOf : Con := ⟨[.st .tree, .i], [.st .key, .i], fun x => some ((keyOf x.1 x.2.1).1, (keyOf x.1 x.2.1).2, ())⟩
abbrev c_keytree_Group : Con := ⟨[.st .tree], [.st .key, .i], fun x => some ((keyOf x.1 0).1, (keyOf x.1 0).2, ())⟩
/-- The keys above a slot. -/
def pathK (t : Tree) (s : Int) : Path := Arr.make fun i => Arr.get t.Keys (pathAt s i)
def pathOf (t : Tree) (s : Int) : Path × Int := bif goodTree t then bif decide (0 ≤ leaf s) then (pathK t s, 0) else (zeroP, 1) else (zeroP, 31)
abbrev c_keytree_PathOf : Con := ⟨[.st .tree, .i], [.arr 3 (.st .key), .i], fun x => some ((pathOf x.1 x.2.1).1, (pathOf x.1 x.2.1).2, ())⟩
abbrev c_ref11_PathOf : Con := ⟨[.st .tree, .i], [.arr 3 (.st .key), .i], fun x => some ((pathOf x.1 x.2.1).1, (pathOf x.1 x.2.1).2, ())⟩
def belowR (r : Roster) (v : Int) : Bool := anyN 64 fun s => isOn r s && below v (leaf s)
abbrev c_ref11_Below : Con := ⟨[.arr 64 (.st .entry), .i], [.bool], fun x => some (belowR x.1 x.2.1, ())⟩
def held (t : Tree) (v : Int) : Bool := goodTree t && belowR t.Roster v
abbrev c_keytree_Held : Con := ⟨[.st .tree, .i], [.bool], fun x => some (held x.1 x.2.1, ())⟩
abbrev c_ref11_Held : Con := ⟨[.st .tree, .i], [.bool], fun x => some (held x.1 x.2.1, ())⟩
abbrev zeroM : Member := St.zero .member
def standAt (t : Tree) (who s : Int) : Member := ⟨who, s, t.Epoch, (leafAt (ent t.Roster s) t.Epoch).1, pathK t s, true, false, 0⟩
def stand (t : Tree) (who : Int) : Member × Int := bif goodTree t then bif decide (0 ≤ findR t.Roster who) then (standAt t who (findR t.Roster who), 0) else (zeroM, 16) else (zeroM, 31)
abbrev c_keytree_Stand : Con := ⟨[.st .tree, .i], [.st .member, .i], fun x => some ((stand x.1 x.2.1).1, (stand x.1 x.2.1).2, ())⟩
abbrev c_ref11_Stand : Con := ⟨[.st .tree, .i], [.st .member, .i], fun x => some ((stand x.1 x.2.1).1, (stand x.1 x.2.1).2, ())⟩
def cardOf (m : Member) : Card := ⟨m.Who, m.Slot, m.Epoch, m.Leaf⟩
def card (t : Tree) (who : Int) : Card × Int := (cardOf (stand t who).1, (stand t who).2)
abbrev c_keytree_Card : Con := ⟨[.st .tree, .i], [.st .card, .i], fun x => some ((card x.1 x.2.1).1, (card x.1 x.2.1).2, ())⟩
abbrev c_ref11_Card : Con := ⟨[.st .tree, .i], [.st .card, .i], fun x => some ((card x.1 x.2.1).1, (card x.1 x.2.1).2, ())⟩

/-! ### The laws of chapter 11 -/
abbrev c_law11_lives : Con := c_True []
abbrev c_law11_TreeChecks : Con := c_True [.st .tree]
abbrev c_law11_TreeNames : Con := c_True [.st .tree]
abbrev c_law11_TreeHeld : Con := c_True [.st .tree]
abbrev c_law11_TreeKeys : Con := c_True [.st .tree, .i, .i]
abbrev c_law11_TreeStands : Con := c_True [.st .tree, .i, .i]
abbrev c_law11_TreePaths : Con := c_True [.st .tree, .i]
end Go.Co.N
