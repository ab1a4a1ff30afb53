/-
  What each function computes, printed by a program of my own (wip/tool) out of its run.
  For the claims about coterie.
-/
import Derived.Test.YtghmcodjbkmlnaaN10G
import Derived.Test.YtghmcodjbkmlnaaN11S
set_option maxRecDepth 100000
noncomputable section
namespace Go.Co.N
open Go Go.Co
/-- coterie/coterieref01.Node -/
def g_ref01_Node : Int × Unit → Option (Bool × Unit)
  | (a, _) => bif decide (0 ≤ a) then some (decide (a < 85), ()) else some (false, ())
/-- coterie/coterieref01.Child -/
def g_ref01_Child : Int × Int × Unit → Option (Int × Unit)
  | (a, b, _) => bif decide (a < 0) then some (-1, ()) else bif decide (21 ≤ a) then some (-1, ()) else bif decide (b < 0) then some (-1, ()) else bif decide (4 ≤ b) then some (-1, ()) else some (IntKind.wrap IntKind.i64 (IntKind.wrap IntKind.i64 (IntKind.wrap IntKind.i64 (4 * a) + 1) + b), ())
def g_ref01_Parent_r2 : (Int × Int × Int × Unit) × Unit × Unit → Option (((Int × Int × Int × Unit) × Unit × Unit) ⊕ ((Int × Unit) × Unit × Unit ⊕ (Int × Int × Unit) × Unit × Unit))
  | ((a, b, c, _), _, _) => bif decide (c < 4) then bif decide (child b c = a) then some (Sum.inr (Sum.inl ((b, ()), (), ()))) else some (Sum.inl ((a, b, IntKind.wrap IntKind.i64 (c + 1), ()), (), ())) else some (Sum.inr (Sum.inr ((a, b, ()), (), ())))
def g_ref01_Parent_r1 : (Int × Int × Unit) × Unit × Unit → Option (((Int × Int × Unit) × Unit × Unit) ⊕ ((Int × Unit) × Unit × Unit ⊕ Unit × Unit × Unit))
  | ((a, b, _), _, _) => bif decide (b < 21) then Option.bind (lfp g_ref01_Parent_r2 ((a, b, 0, ()), (), ())) fun z => Sum.elim (fun x => some (Sum.inr (Sum.inl ((x.fst.fst, ()), (), ())))) (fun z => some (Sum.inl ((z.fst.fst, IntKind.wrap IntKind.i64 (z.fst.snd.fst + 1), ()), (), ()))) z else some (Sum.inr (Sum.inr ((), (), ())))
/-- coterie/coterieref01.Parent -/
def g_ref01_Parent : Int × Unit → Option (Int × Unit)
  | (a, _) => bif decide (a < 1) then some (-1, ()) else bif decide (85 ≤ a) then some (-1, ()) else Option.bind (lfp g_ref01_Parent_r1 ((a, 0, ()), (), ())) fun z => Sum.elim (fun x => some (x.fst.fst, ())) (fun _ => some (-1, ())) z
/-- coterie/coterieref01.Leaf -/
def g_ref01_Leaf : Int × Unit → Option (Int × Unit)
  | (a, _) => bif decide (a < 0) then some (-1, ()) else bif decide (64 ≤ a) then some (-1, ()) else some (IntKind.wrap IntKind.i64 (21 + a), ())
def g_ref01_Path_r1 : (Unit × Unit × Int × Int × Unit) × (Vector Int 3 × Vector Int 3 × Unit) × Unit → Option (((Unit × Unit × Int × Int × Unit) × (Vector Int 3 × Vector Int 3 × Unit) × Unit) ⊕ ((Unit × Unit × Unit) × (Vector Int 3 × Vector Int 3 × Unit) × Unit))
  | ((_, _, a, b, _), (c, d, _), _) => bif decide (b < 3) then bif decide (0 ≤ b) && decide (b < 3) then some (Sum.inl (((), (), par a, IntKind.wrap IntKind.i64 (b + 1), ()), (c, Arr.put d b (par a), ()), ())) else none else some (Sum.inr (((), (), ()), (c, d, ()), ()))
/-- coterie/coterieref01.Path -/
def g_ref01_Path : Int × Unit → Option (Vector Int 3 × Bool × Unit)
  | (a, _) => bif decide (leaf a < 0) then some (Vector.replicate 3 0, false, ()) else Option.bind (lfp g_ref01_Path_r1 (((), (), leaf a, 0, ()), (Vector.replicate 3 0, Vector.replicate 3 0, ()), ())) fun z => some (z.snd.fst.snd.fst, true, ())
def g_ref01_Below_r1 : (Int × Int × Unit) × Unit × Unit → Option (((Int × Int × Unit) × Unit × Unit) ⊕ ((Int × Int × Unit) × Unit × Unit))
  | ((a, b, _), _, _) => bif decide (a < b) then some (Sum.inl ((a, par b, ()), (), ())) else some (Sum.inr ((a, b, ()), (), ()))
/-- coterie/coterieref01.Below -/
def g_ref01_Below : Int × Int × Unit → Option (Bool × Unit)
  | (a, b, _) => bif !node a then some (false, ()) else bif !node b then some (false, ()) else Option.bind (lfp g_ref01_Below_r1 ((a, b, ()), (), ())) fun z => some (decide (z.fst.snd.fst = z.fst.fst), ())
/-- coterie/shape.Leaf -/
def g_shape_Leaf : Int × Unit → Option (Int × Unit)
  | (a, _) => bif decide (a < 0) then some (-1, ()) else bif decide (64 ≤ a) then some (-1, ()) else some (IntKind.wrap IntKind.i64 (21 + a), ())
/-- coterie/shape.Slot -/
def g_shape_Slot : Int × Unit → Option (Int × Unit)
  | (a, _) => bif decide (a < 21) then some (-1, ()) else bif decide (85 ≤ a) then some (-1, ()) else some (IntKind.wrap IntKind.i64 (a - 21), ())
/-- coterie/shape.first -/
def g_shape_first : Int × Unit → Option (Int × Unit)
  | (a, _) => bif decide (0 ≤ IntKind.wrap IntKind.i64 (2 * a)) then some (IntKind.wrap IntKind.i64 (Int.tdiv (IntKind.wrap IntKind.i64 (shlI IntKind.i64 1 (IntKind.wrap IntKind.i64 (2 * a)) - 1)) 3), ()) else none
def g_shape_Level_r1 : (Int × Int × Unit) × Unit × Unit → Option (((Int × Int × Unit) × Unit × Unit) ⊕ ((Int × Unit) × Unit × Unit))
  | ((a, b, _), _, _) => Option.bind (bif decide (0 ≤ b) && decide (b ≤ 3) then some (firstOf b, ()) else none) fun y => bif decide (y.fst ≤ a) then some (Sum.inr ((b, ()), (), ())) else some (Sum.inl ((a, IntKind.wrap IntKind.i64 (b - 1), ()), (), ()))
/-- coterie/shape.Level -/
def g_shape_Level : Int × Unit → Option (Int × Unit)
  | (a, _) => bif decide (a < 0) then some (-1, ()) else bif decide (85 ≤ a) then some (-1, ()) else Option.bind (lfp g_shape_Level_r1 ((a, 3, ()), (), ())) fun z => some (z.fst.fst, ())
/-- coterie/shape.span -/
def g_shape_span : Int × Unit → Option (Int × Int × Unit)
  | (a, _) => Option.bind (bif decide (0 ≤ level a) && decide (level a ≤ 3) then some (firstOf (level a), ()) else none) fun y => bif decide (0 ≤ IntKind.wrap IntKind.i64 (2 * IntKind.wrap IntKind.i64 (3 - level a))) then bif decide (0 ≤ IntKind.wrap IntKind.i64 (2 * IntKind.wrap IntKind.i64 (3 - level a))) then some (shlI IntKind.i64 (IntKind.wrap IntKind.i64 (a - y.fst)) (IntKind.wrap IntKind.i64 (2 * IntKind.wrap IntKind.i64 (3 - level a))), shlI IntKind.i64 1 (IntKind.wrap IntKind.i64 (2 * IntKind.wrap IntKind.i64 (3 - level a))), ()) else none else none
/-- coterie/shape.Mask -/
def g_shape_Mask : Int × Unit → Option (Int × Unit)
  | (a, _) => bif decide (level a < 0) then some (0, ()) else Option.bind (bif node a then some ((spanOf a).fst, (spanOf a).snd, ()) else none) fun y => some (shlI IntKind.u64 (shrI IntKind.u64 18446744073709551615 (IntKind.wrap IntKind.u64 (64 - IntKind.wrap IntKind.u64 y.snd.fst))) (IntKind.wrap IntKind.u64 y.fst), ())
def g_shape_Path_r1 : (Int × Unit × Unit × Int × Unit) × (Vector Int 3 × Vector Int 3 × Unit) × Unit → Option (((Int × Unit × Unit × Int × Unit) × (Vector Int 3 × Vector Int 3 × Unit) × Unit) ⊕ ((Unit × Unit × Unit) × (Vector Int 3 × Vector Int 3 × Unit) × Unit))
  | ((a, _, _, b, _), (c, d, _), _) => bif decide (b < 3) then Option.bind (bif decide (0 ≤ IntKind.wrap IntKind.i64 (3 - IntKind.wrap IntKind.i64 (b + 1))) && decide (IntKind.wrap IntKind.i64 (3 - IntKind.wrap IntKind.i64 (b + 1)) ≤ 3) then some (firstOf (IntKind.wrap IntKind.i64 (3 - IntKind.wrap IntKind.i64 (b + 1))), ()) else none) fun y => bif decide (0 ≤ IntKind.wrap IntKind.i64 (2 * IntKind.wrap IntKind.i64 (b + 1))) then bif decide (0 ≤ b) && decide (b < 3) then some (Sum.inl ((a, (), (), IntKind.wrap IntKind.i64 (b + 1), ()), (c, Arr.put d b (IntKind.wrap IntKind.i64 (y.fst + shrI IntKind.i64 a (IntKind.wrap IntKind.i64 (2 * IntKind.wrap IntKind.i64 (b + 1))))), ()), ())) else none else none else some (Sum.inr (((), (), ()), (c, d, ()), ()))
/-- coterie/shape.Path -/
def g_shape_Path : Int × Unit → Option (Vector Int 3 × Bool × Unit)
  | (a, _) => bif decide (leaf a < 0) then some (Vector.replicate 3 0, false, ()) else Option.bind (lfp g_shape_Path_r1 ((a, (), (), 0, ()), (Vector.replicate 3 0, Vector.replicate 3 0, ()), ())) fun z => some (z.snd.fst.snd.fst, true, ())
/-- coterie/roster.right -/
def g_roster_right : Entry × Unit → Option (Bool × Unit)
  | (a, _) => bif decide (0 ≤ a.Who) then bif decide (a.Who < 256) then bif decide (0 < a.Base) then bif decide (a.Base < 32768) then bif decide (0 < a.Since) then some (decide (a.Since ≤ 200), ()) else some (false, ()) else some (false, ()) else some (false, ()) else some (false, ()) else some (false, ())
def g_roster_Check_r1 : (Unit × Unit × Vector Entry 64 × Int × Unit) × Unit × List (Int × Int) × List (Int × Int) × Unit → Option (((Unit × Unit × Vector Entry 64 × Int × Unit) × Unit × List (Int × Int) × List (Int × Int) × Unit) ⊕ ((Int × Unit) × Unit × Unit ⊕ Unit × Unit × Unit))
  | ((_, _, a, b, _), _, c, d, _) => bif decide (b < 64) then bif decide (0 ≤ b) && decide (b < 64) then bif decide (Arr.get a b = Entry.mk 0 0 0) then some (Sum.inl (((), (), a, IntKind.wrap IntKind.i64 (b + 1), ()), (), c, d, ())) else bif !goodE (Arr.get a b) then some (Sum.inr (Sum.inl ((31, ()), (), ()))) else bif decide (1 < Option.getD (mget (mput c (Arr.get a b).Who (IntKind.wrap IntKind.i64 (Option.getD (mget c (Arr.get a b).Who) 0 + 1))) (Arr.get a b).Who) 0) then some (Sum.inr (Sum.inl ((31, ()), (), ()))) else bif decide (1 < Option.getD (mget (mput d (Arr.get a b).Base (IntKind.wrap IntKind.i64 (Option.getD (mget d (Arr.get a b).Base) 0 + 1))) (Arr.get a b).Base) 0) then some (Sum.inr (Sum.inl ((31, ()), (), ()))) else some (Sum.inl (((), (), a, IntKind.wrap IntKind.i64 (b + 1), ()), (), mput c (Arr.get a b).Who (IntKind.wrap IntKind.i64 (Option.getD (mget c (Arr.get a b).Who) 0 + 1)), mput d (Arr.get a b).Base (IntKind.wrap IntKind.i64 (Option.getD (mget d (Arr.get a b).Base) 0 + 1)), ())) else none else some (Sum.inr (Sum.inr ((), (), ())))
/-- coterie/roster.Check -/
def g_roster_Check : Vector Entry 64 × Unit → Option (Int × Unit)
  | (a, _) => Option.bind (lfp g_roster_Check_r1 (((), (), a, 0, ()), (), [], [], ())) fun z => Sum.elim (fun x => some (x.fst.fst, ())) (fun _ => some (0, ())) z
def g_roster_Taken_r1 : (Int × Vector Entry 64 × Int × Unit) × Unit × Unit → Option (((Int × Vector Entry 64 × Int × Unit) × Unit × Unit) ⊕ ((Int × Unit) × Unit × Unit))
  | ((a, b, c, _), _, _) => bif decide (c < 64) then bif decide (0 ≤ c) && decide (c < 64) then bif !decide ((Arr.get b c).Base = 0) then some (Sum.inl ((bw BinOp.or IntKind.u64 a (shlI IntKind.u64 1 (IntKind.wrap IntKind.u64 c)), b, IntKind.wrap IntKind.i64 (c + 1), ()), (), ())) else some (Sum.inl ((a, b, IntKind.wrap IntKind.i64 (c + 1), ()), (), ())) else none else some (Sum.inr ((a, ()), (), ()))
/-- coterie/roster.Taken -/
def g_roster_Taken : Vector Entry 64 × Unit → Option (Int × Unit)
  | (a, _) => Option.bind (lfp g_roster_Taken_r1 ((0, a, 0, ()), (), ())) fun z => some (z.fst.fst, ())
def g_roster_Find_r1 : (Unit × Unit × Int × Int × Unit) × (Vector Entry 64 × Int × Unit) × Unit → Option (((Unit × Unit × Int × Int × Unit) × (Vector Entry 64 × Int × Unit) × Unit) ⊕ ((Int × Unit) × Unit × Unit ⊕ Unit × Unit × Unit))
  | ((_, _, a, b, _), (c, d, _), _) => bif decide (b < a) then bif decide (0 ≤ b) && decide (b < 64) then bif !decide ((Arr.get c b).Base = 0) then bif decide ((Arr.get c b).Who = d) then some (Sum.inr (Sum.inl ((b, ()), (), ()))) else some (Sum.inl (((), (), a, IntKind.wrap IntKind.i64 (b + 1), ()), (c, d, ()), ())) else some (Sum.inl (((), (), a, IntKind.wrap IntKind.i64 (b + 1), ()), (c, d, ()), ())) else none else some (Sum.inr (Sum.inr ((), (), ())))
/-- coterie/roster.Find -/
def g_roster_Find : Vector Entry 64 × Int × Unit → Option (Int × Unit)
  | (a, b, _) => Option.bind (lfp g_roster_Find_r1 (((), (), 64, 0, ()), (a, b, ()), ())) fun z => Sum.elim (fun x => some (x.fst.fst, ())) (fun _ => some (-1, ())) z
/-- coterie/coterieref09.Right -/
def g_ref09_Right : Entry × Unit → Option (Bool × Unit)
  | (a, _) => bif decide (0 ≤ a.Who) then bif decide (a.Who < 256) then bif decide (1 ≤ a.Base) then bif decide (a.Base < 32768) then bif decide (1 ≤ a.Since) then some (decide (a.Since ≤ 200), ()) else some (false, ()) else some (false, ()) else some (false, ()) else some (false, ()) else some (false, ())
def g_ref09_Check_r2 : (Unit × Int × Int × Unit) × (Vector Entry 64 × Unit) × Unit → Option (((Unit × Int × Int × Unit) × (Vector Entry 64 × Unit) × Unit) ⊕ ((Int × Unit) × Unit × Unit ⊕ (Unit × Int × Unit) × (Vector Entry 64 × Unit) × Unit))
  | ((_, a, b, _), (c, _), _) => bif decide (b < a) then bif decide (0 ≤ b) && decide (b < 64) then bif !decide ((Arr.get c b).Base = 0) then bif decide (0 ≤ b) && decide (b < 64) then bif decide (0 ≤ a) && decide (a < 64) then bif decide ((Arr.get c b).Who = (Arr.get c a).Who) then some (Sum.inr (Sum.inl ((31, ()), (), ()))) else bif decide (0 ≤ b) && decide (b < 64) then bif decide (0 ≤ a) && decide (a < 64) then bif decide ((Arr.get c b).Base = (Arr.get c a).Base) then some (Sum.inr (Sum.inl ((31, ()), (), ()))) else some (Sum.inl (((), a, IntKind.wrap IntKind.i64 (b + 1), ()), (c, ()), ())) else none else none else none else none else some (Sum.inl (((), a, IntKind.wrap IntKind.i64 (b + 1), ()), (c, ()), ())) else none else some (Sum.inr (Sum.inr (((), a, ()), (c, ()), ())))
def g_ref09_Check_r1 : (Unit × Int × Unit) × (Vector Entry 64 × Unit) × Unit → Option (((Unit × Int × Unit) × (Vector Entry 64 × Unit) × Unit) ⊕ ((Int × Unit) × Unit × Unit ⊕ Unit × Unit × Unit))
  | ((_, a, _), (b, _), _) => bif decide (a < 64) then bif decide (0 ≤ a) && decide (a < 64) then bif decide (Arr.get b a = Entry.mk 0 0 0) then some (Sum.inl (((), IntKind.wrap IntKind.i64 (a + 1), ()), (b, ()), ())) else bif decide (0 ≤ a) && decide (a < 64) then bif !goodE (Arr.get b a) then some (Sum.inr (Sum.inl ((31, ()), (), ()))) else Option.bind (lfp g_ref09_Check_r2 (((), a, 0, ()), (b, ()), ())) fun z => Sum.elim (fun x => some (Sum.inr (Sum.inl ((x.fst.fst, ()), (), ())))) (fun z => some (Sum.inl (((), IntKind.wrap IntKind.i64 (z.fst.snd.fst + 1), ()), (z.snd.fst.fst, ()), ()))) z else none else none else some (Sum.inr (Sum.inr ((), (), ())))
/-- coterie/coterieref09.Check -/
def g_ref09_Check : Vector Entry 64 × Unit → Option (Int × Unit)
  | (a, _) => Option.bind (lfp g_ref09_Check_r1 (((), 0, ()), (a, ()), ())) fun z => Sum.elim (fun x => some (x.fst.fst, ())) (fun _ => some (0, ())) z
def g_ref09_Find_r1 : (Int × Unit × Int × Unit) × (Vector Entry 64 × Unit) × Unit → Option (((Int × Unit × Int × Unit) × (Vector Entry 64 × Unit) × Unit) ⊕ ((Int × Unit) × Unit × Unit ⊕ Unit × Unit × Unit))
  | ((a, _, b, _), (c, _), _) => bif decide (b < 64) then bif decide (0 ≤ b) && decide (b < 64) then bif !decide ((Arr.get c b).Base = 0) then bif decide (0 ≤ b) && decide (b < 64) then bif decide ((Arr.get c b).Who = a) then some (Sum.inr (Sum.inl ((b, ()), (), ()))) else some (Sum.inl ((a, (), IntKind.wrap IntKind.i64 (b + 1), ()), (c, ()), ())) else none else some (Sum.inl ((a, (), IntKind.wrap IntKind.i64 (b + 1), ()), (c, ()), ())) else none else some (Sum.inr (Sum.inr ((), (), ())))
/-- coterie/coterieref09.Find -/
def g_ref09_Find : Vector Entry 64 × Int × Unit → Option (Int × Unit)
  | (a, b, _) => Option.bind (lfp g_ref09_Find_r1 ((b, (), 0, ()), (a, ()), ())) fun z => Sum.elim (fun x => some (x.fst.fst, ())) (fun _ => some (-1, ())) z
def g_keytree_Start_r1 : (Unit × Unit × Int × Unit) × (Tree × Tree × Unit) × Unit → Option (((Unit × Unit × Int × Unit) × (Tree × Tree × Unit) × Unit) ⊕ ((Unit × Unit × Unit) × (Tree × Tree × Unit) × Unit))
  | ((_, _, a, _), (b, c, _), _) => bif decide (a < 21) then bif decide (0 ≤ a) && decide (a < 21) then some (Sum.inl (((), (), IntKind.wrap IntKind.i64 (a + 1), ()), (b, Tree.mk c.Epoch c.Fresh (Arr.put c.Keys a (Key.mk (IntKind.wrap IntKind.i64 (a + 1)) (Arr.get c.Keys a).Step)) c.Roster, ()), ())) else none else some (Sum.inr (((), (), ()), (b, c, ()), ()))
/-- coterie/keytree.Start -/
def g_keytree_Start : Unit → Option (Tree × Unit)
  | _ => Option.bind (lfp g_keytree_Start_r1 (((), (), 0, ()), (St.zero St.tree, Tree.mk 0 22 (Vector.replicate 21 (St.zero St.key)) (Vector.replicate 64 (St.zero St.entry)), ()), ())) fun z => some (z.snd.fst.snd.fst, ())
def g_keytree_Check_r1 : (Unit × Unit × Vector Key 21 × Int × Unit) × (Tree × Unit) × List (Int × Int) × Unit → Option (((Unit × Unit × Vector Key 21 × Int × Unit) × (Tree × Unit) × List (Int × Int) × Unit) ⊕ ((Int × Unit) × Unit × Unit ⊕ (Unit × Unit × Unit) × (Tree × Unit) × List (Int × Int) × Unit))
  | ((_, _, a, b, _), (c, _), d, _) => bif decide (b < 21) then bif decide (0 ≤ b) && decide (b < 21) then bif decide (c.Fresh ≤ (Arr.get a b).Base) then some (Sum.inr (Sum.inl ((31, ()), (), ()))) else bif decide (c.Epoch < (Arr.get a b).Step) then some (Sum.inr (Sum.inl ((31, ()), (), ()))) else some (Sum.inl (((), (), a, IntKind.wrap IntKind.i64 (b + 1), ()), (c, ()), mput d (Arr.get a b).Base (IntKind.wrap IntKind.i64 (Option.getD (mget d (Arr.get a b).Base) 0 + 1)), ())) else none else some (Sum.inr (Sum.inr (((), (), ()), (c, ()), d, ())))
def g_keytree_Check_r2 : (Unit × Unit × Vector Entry 64 × Int × Unit) × (Tree × Unit) × List (Int × Int) × Unit → Option (((Unit × Unit × Vector Entry 64 × Int × Unit) × (Tree × Unit) × List (Int × Int) × Unit) ⊕ ((Int × Unit) × Unit × Unit ⊕ Unit × Unit × Unit))
  | ((_, _, a, b, _), (c, _), d, _) => bif decide (b < 64) then bif decide (0 ≤ b) && decide (b < 64) then bif decide (0 < Option.getD (mget d (Arr.get a b).Base) 0) then some (Sum.inr (Sum.inl ((31, ()), (), ()))) else bif decide (c.Fresh ≤ (Arr.get a b).Base) then some (Sum.inr (Sum.inl ((31, ()), (), ()))) else bif decide (c.Epoch < (Arr.get a b).Since) then some (Sum.inr (Sum.inl ((31, ()), (), ()))) else some (Sum.inl (((), (), a, IntKind.wrap IntKind.i64 (b + 1), ()), (c, ()), d, ())) else none else some (Sum.inr (Sum.inr ((), (), ())))
/-- coterie/keytree.Check -/
def g_keytree_Check : Tree × Unit → Option (Int × Unit)
  | (a, _) => bif decide (a.Epoch < 0) then some (31, ()) else bif decide (200 < a.Epoch) then some (31, ()) else bif decide (a.Fresh ≤ 21) then some (31, ()) else bif decide (32768 < a.Fresh) then some (31, ()) else bif !decide (chk a.Keys = 0) then some (31, ()) else bif !decide (chkR a.Roster = 0) then some (31, ()) else Option.bind (lfp g_keytree_Check_r1 (((), (), a.Keys, 0, ()), (a, ()), [], ())) fun z => Sum.elim (fun x => some (x.fst.fst, ())) (fun z => Option.bind (lfp g_keytree_Check_r2 (((), (), z.snd.fst.fst.Roster, 0, ()), (z.snd.fst.fst, ()), z.snd.snd.fst, ())) fun z => Sum.elim (fun x => some (x.fst.fst, ())) (fun _ => some (0, ())) z) z
/-- coterie/keytree.KeyOf -/
def g_keytree_KeyOf : Tree × Int × Unit → Option (Key × Int × Unit)
  | (a, b, _) => bif !decide (chkT a = 0) then some (Key.mk 0 0, chkT a, ()) else bif decide (0 ≤ slot b) then bif decide (0 ≤ slot b) && decide (slot b < 64) then some ((leafAt (Arr.get a.Roster (slot b)) a.Epoch).fst, (leafAt (Arr.get a.Roster (slot b)) a.Epoch).snd, ()) else none else bif decide (level b < 0) then some (Key.mk 0 0, 2, ()) else bif decide (0 ≤ b) && decide (b < 21) then some (Arr.get a.Keys b, 0, ()) else none
/-- coterie/keytree.Group -/
def g_keytree_Group : Tree × Unit → Option (Key × Int × Unit)
  | (a, _) => some ((N.keyOf a 0).fst, (N.keyOf a 0).snd, ())
def g_keytree_PathOf_r1 : (Unit × Unit × Unit × Vector Int 3 × Int × Unit) × (Tree × Vector Key 3 × Vector Key 3 × Unit) × Unit → Option (((Unit × Unit × Unit × Vector Int 3 × Int × Unit) × (Tree × Vector Key 3 × Vector Key 3 × Unit) × Unit) ⊕ ((Unit × Unit × Unit) × (Vector Key 3 × Vector Key 3 × Unit) × Unit))
  | ((_, _, _, a, b, _), (c, d, e, _), _) => bif decide (b < 3) then bif decide (0 ≤ b) && decide (b < 3) then bif decide (0 ≤ Arr.get a b) && decide (Arr.get a b < 21) then bif decide (0 ≤ b) && decide (b < 3) then some (Sum.inl (((), (), (), a, IntKind.wrap IntKind.i64 (b + 1), ()), (c, d, Arr.put e b (Arr.get c.Keys (Arr.get a b)), ()), ())) else none else none else none else some (Sum.inr (((), (), ()), (d, e, ()), ()))
/-- coterie/keytree.PathOf -/
def g_keytree_PathOf : Tree × Int × Unit → Option (Vector Key 3 × Int × Unit)
  | (a, b, _) => bif !decide (chkT a = 0) then some (Vector.replicate 3 (St.zero St.key), chkT a, ()) else bif !decide (0 ≤ leaf b) then some (Vector.replicate 3 (St.zero St.key), 1, ()) else Option.bind (lfp g_keytree_PathOf_r1 (((), (), (), bif decide (0 ≤ leaf b) then pathN b else zero3, 0, ()), (a, Vector.replicate 3 (St.zero St.key), Vector.replicate 3 (St.zero St.key), ()), ())) fun z => some (z.snd.fst.snd.fst, 0, ())
/-- coterie/keytree.Held -/
def g_keytree_Held : Tree × Int × Unit → Option (Bool × Unit)
  | (a, b, _) => bif decide (chkT a = 0) then some (!decide (bw BinOp.and IntKind.u64 (N.taken a.Roster) (mask b) = 0), ()) else some (false, ())
/-- coterie/keytree.Card -/
def g_keytree_Card : Tree × Int × Unit → Option (Card × Int × Unit)
  | (a, b, _) => bif !decide (chkT a = 0) then some (Card.mk 0 0 0 (St.zero St.key), chkT a, ()) else bif decide (findR a.Roster b < 0) then some (Card.mk 0 0 0 (St.zero St.key), 16, ()) else bif decide (0 ≤ findR a.Roster b) && decide (findR a.Roster b < 64) then some (Card.mk b (findR a.Roster b) a.Epoch (leafAt (Arr.get a.Roster (findR a.Roster b)) a.Epoch).fst, (leafAt (Arr.get a.Roster (findR a.Roster b)) a.Epoch).snd, ()) else none
/-- coterie/keytree.Stand -/
def g_keytree_Stand : Tree × Int × Unit → Option (Member × Int × Unit)
  | (a, b, _) => bif !decide ((card a b).snd = 0) then some (Member.mk 0 0 0 (St.zero St.key) (Vector.replicate 3 (St.zero St.key)) false false 0, (card a b).snd, ()) else some (Member.mk b (card a b).fst.Slot (card a b).fst.Epoch (card a b).fst.Leaf (pathOf a (card a b).fst.Slot).fst true false 0, (pathOf a (card a b).fst.Slot).snd, ())
def g_ref11_Start_r1 : (Unit × Unit × Int × Unit) × (Tree × Tree × Unit) × Unit → Option (((Unit × Unit × Int × Unit) × (Tree × Tree × Unit) × Unit) ⊕ ((Unit × Unit × Unit) × (Tree × Tree × Unit) × Unit))
  | ((_, _, a, _), (b, c, _), _) => bif decide (a < 21) then bif decide (0 ≤ a) && decide (a < 21) then some (Sum.inl (((), (), IntKind.wrap IntKind.i64 (a + 1), ()), (b, Tree.mk c.Epoch c.Fresh (Arr.put c.Keys a (Key.mk (IntKind.wrap IntKind.i64 (a + 1)) 0)) c.Roster, ()), ())) else none else some (Sum.inr (((), (), ()), (b, c, ()), ()))
/-- coterie/coterieref11.Start -/
def g_ref11_Start : Unit → Option (Tree × Unit)
  | _ => Option.bind (lfp g_ref11_Start_r1 (((), (), 0, ()), (St.zero St.tree, Tree.mk 0 22 (Vector.replicate 21 (St.zero St.key)) (Vector.replicate 64 (St.zero St.entry)), ()), ())) fun z => some (z.snd.fst.snd.fst, ())
def g_ref11_Check_r1 : (Unit × Int × Unit) × (Tree × Unit) × Unit → Option (((Unit × Int × Unit) × (Tree × Unit) × Unit) ⊕ ((Int × Unit) × Unit × Unit ⊕ (Unit × Unit) × (Tree × Unit) × Unit))
  | ((_, a, _), (b, _), _) => bif decide (a < 21) then bif decide (0 ≤ a) && decide (a < 21) then bif decide (b.Fresh ≤ (Arr.get b.Keys a).Base) then some (Sum.inr (Sum.inl ((31, ()), (), ()))) else bif decide (0 ≤ a) && decide (a < 21) then bif decide (b.Epoch < (Arr.get b.Keys a).Step) then some (Sum.inr (Sum.inl ((31, ()), (), ()))) else some (Sum.inl (((), IntKind.wrap IntKind.i64 (a + 1), ()), (b, ()), ())) else none else none else some (Sum.inr (Sum.inr (((), ()), (b, ()), ())))
def g_ref11_Check_r3 : (Unit × Int × Int × Unit) × (Tree × Unit) × Unit → Option (((Unit × Int × Int × Unit) × (Tree × Unit) × Unit) ⊕ ((Int × Unit) × Unit × Unit ⊕ (Unit × Int × Unit) × (Tree × Unit) × Unit))
  | ((_, a, b, _), (c, _), _) => bif decide (b < 21) then bif decide (0 ≤ b) && decide (b < 21) then bif decide (0 ≤ a) && decide (a < 64) then bif decide ((Arr.get c.Keys b).Base = (Arr.get c.Roster a).Base) then some (Sum.inr (Sum.inl ((31, ()), (), ()))) else some (Sum.inl (((), a, IntKind.wrap IntKind.i64 (b + 1), ()), (c, ()), ())) else none else none else some (Sum.inr (Sum.inr (((), a, ()), (c, ()), ())))
def g_ref11_Check_r2 : (Unit × Int × Unit) × (Tree × Unit) × Unit → Option (((Unit × Int × Unit) × (Tree × Unit) × Unit) ⊕ ((Int × Unit) × Unit × Unit ⊕ Unit × Unit × Unit))
  | ((_, a, _), (b, _), _) => bif decide (a < 64) then bif decide (0 ≤ a) && decide (a < 64) then bif decide (b.Fresh ≤ (Arr.get b.Roster a).Base) then some (Sum.inr (Sum.inl ((31, ()), (), ()))) else bif decide (0 ≤ a) && decide (a < 64) then bif decide (b.Epoch < (Arr.get b.Roster a).Since) then some (Sum.inr (Sum.inl ((31, ()), (), ()))) else Option.bind (lfp g_ref11_Check_r3 (((), a, 0, ()), (b, ()), ())) fun z => Sum.elim (fun x => some (Sum.inr (Sum.inl ((x.fst.fst, ()), (), ())))) (fun z => some (Sum.inl (((), IntKind.wrap IntKind.i64 (z.fst.snd.fst + 1), ()), (z.snd.fst.fst, ()), ()))) z else none else none else some (Sum.inr (Sum.inr ((), (), ())))
/-- coterie/coterieref11.Check -/
def g_ref11_Check : Tree × Unit → Option (Int × Unit)
  | (a, _) => bif decide (a.Epoch < 0) then some (31, ()) else bif decide (200 < a.Epoch) then some (31, ()) else bif decide (a.Fresh < 22) then some (31, ()) else bif decide (32768 < a.Fresh) then some (31, ()) else bif !decide (chk a.Keys = 0) then some (31, ()) else bif !decide (chkR a.Roster = 0) then some (31, ()) else Option.bind (lfp g_ref11_Check_r1 (((), 0, ()), (a, ()), ())) fun z => Sum.elim (fun x => some (x.fst.fst, ())) (fun z => Option.bind (lfp g_ref11_Check_r2 (((), 0, ()), (z.snd.fst.fst, ()), ())) fun z => Sum.elim (fun x => some (x.fst.fst, ())) (fun _ => some (0, ())) z) z
/-- coterie/coterieref11.Of -/
def g_ref11_Of : Tree × Int × Unit → Option (Key × Int × Unit)
  | (a, b, _) => bif !node b then some (Key.mk 0 0, 2, ()) else bif decide (b < 21) then bif decide (0 ≤ b) && decide (b < 21) then some (Arr.get a.Keys b, 0, ()) else none else bif decide (0 ≤ IntKind.wrap IntKind.i64 (b - 21)) && decide (IntKind.wrap IntKind.i64 (b - 21) < 64) then some ((leafAt (Arr.get a.Roster (IntKind.wrap IntKind.i64 (b - 21))) a.Epoch).fst, (leafAt (Arr.get a.Roster (IntKind.wrap IntKind.i64 (b - 21))) a.Epoch).snd, ()) else none
/-- coterie/coterieref11.KeyOf -/
def g_ref11_KeyOf : Tree × Int × Unit → Option (Key × Int × Unit)
  | (a, b, _) => bif !decide (chkT a = 0) then some (Key.mk 0 0, 31, ()) else some ((ofT a b).fst, (ofT a b).snd, ())
def g_ref11_PathOf_r1 : (Unit × Unit × Unit × Unit × Int × Unit) × (Tree × Vector Key 3 × Vector Key 3 × Vector Int 3 × Unit) × Unit → Option (((Unit × Unit × Unit × Unit × Int × Unit) × (Tree × Vector Key 3 × Vector Key 3 × Vector Int 3 × Unit) × Unit) ⊕ ((Unit × Unit × Unit) × (Vector Key 3 × Vector Key 3 × Unit) × Unit))
  | ((_, _, _, _, a, _), (b, c, d, e, _), _) => bif decide (a < 3) then bif decide (0 ≤ a) && decide (a < 3) then bif decide (0 ≤ Arr.get e a) && decide (Arr.get e a < 21) then bif decide (0 ≤ a) && decide (a < 3) then some (Sum.inl (((), (), (), (), IntKind.wrap IntKind.i64 (a + 1), ()), (b, c, Arr.put d a (Arr.get b.Keys (Arr.get e a)), e, ()), ())) else none else none else none else some (Sum.inr (((), (), ()), (c, d, ()), ()))
/-- coterie/coterieref11.PathOf -/
def g_ref11_PathOf : Tree × Int × Unit → Option (Vector Key 3 × Int × Unit)
  | (a, b, _) => bif !decide (chkT a = 0) then some (Vector.replicate 3 (St.zero St.key), 31, ()) else bif !decide (0 ≤ leaf b) then some (Vector.replicate 3 (St.zero St.key), 1, ()) else Option.bind (lfp g_ref11_PathOf_r1 (((), (), (), (), 0, ()), (a, Vector.replicate 3 (St.zero St.key), Vector.replicate 3 (St.zero St.key), bif decide (0 ≤ leaf b) then pathN b else zero3, ()), ())) fun z => some (z.snd.fst.snd.fst, 0, ())
def g_ref11_Below_r1 : (Int × Unit × Int × Unit) × (Vector Entry 64 × Unit) × Unit → Option (((Int × Unit × Int × Unit) × (Vector Entry 64 × Unit) × Unit) ⊕ ((Bool × Unit) × Unit × Unit ⊕ Unit × Unit × Unit))
  | ((a, _, b, _), (c, _), _) => bif decide (b < 64) then bif decide (0 ≤ b) && decide (b < 64) then bif !decide ((Arr.get c b).Base = 0) then bif below a (leaf b) then some (Sum.inr (Sum.inl ((true, ()), (), ()))) else some (Sum.inl ((a, (), IntKind.wrap IntKind.i64 (b + 1), ()), (c, ()), ())) else some (Sum.inl ((a, (), IntKind.wrap IntKind.i64 (b + 1), ()), (c, ()), ())) else none else some (Sum.inr (Sum.inr ((), (), ())))
/-- coterie/coterieref11.Below -/
def g_ref11_Below : Vector Entry 64 × Int × Unit → Option (Bool × Unit)
  | (a, b, _) => Option.bind (lfp g_ref11_Below_r1 ((b, (), 0, ()), (a, ()), ())) fun z => Sum.elim (fun x => some (x.fst.fst, ())) (fun _ => some (false, ())) z
/-- coterie/coterieref11.Held -/
def g_ref11_Held : Tree × Int × Unit → Option (Bool × Unit)
  | (a, b, _) => bif decide (chkT a = 0) then some (belowR a.Roster b, ()) else some (false, ())
/-- coterie/coterieref11.Stand -/
def g_ref11_Stand : Tree × Int × Unit → Option (Member × Int × Unit)
  | (a, b, _) => bif !decide (chkT a = 0) then some (Member.mk 0 0 0 (St.zero St.key) (Vector.replicate 3 (St.zero St.key)) false false 0, 31, ()) else bif decide (findR a.Roster b < 0) then some (Member.mk 0 0 0 (St.zero St.key) (Vector.replicate 3 (St.zero St.key)) false false 0, 16, ()) else bif decide (0 ≤ findR a.Roster b) && decide (findR a.Roster b < 64) then some (Member.mk b (findR a.Roster b) a.Epoch (leafAt (Arr.get a.Roster (findR a.Roster b)) a.Epoch).fst (pathOf a (findR a.Roster b)).fst true false 0, 0, ()) else none
/-- coterie/coterieref11.Card -/
def g_ref11_Card : Tree × Int × Unit → Option (Card × Int × Unit)
  | (a, b, _) => some (Card.mk (stand a b).fst.Who (stand a b).fst.Slot (stand a b).fst.Epoch (stand a b).fst.Leaf, (stand a b).snd, ())
/-- coterie/coterielaw11.lives -/
def g_law11_lives : Unit → Option (Bool × Unit)
  | _ => some (true, ())
/-- coterie/coterielaw11.TreeChecks -/
def g_law11_TreeChecks : Tree × Unit → Option (Bool × Unit)
  | (a, _) => some (decide (chkT a = chkT a), ())
def g_law11_TreeNames_r1 : (Unit × Unit × Int × Unit) × (Tree × Unit) × List (Int × Int) × Unit → Option (((Unit × Unit × Int × Unit) × (Tree × Unit) × List (Int × Int) × Unit) ⊕ ((Bool × Unit) × Unit × Unit ⊕ Unit × Unit × Unit))
  | ((_, _, a, _), (b, _), c, _) => bif decide (a < 85) then bif !decide ((N.keyOf b a).snd = 0) then some (Sum.inl (((), (), IntKind.wrap IntKind.i64 (a + 1), ()), (b, ()), c, ())) else bif decide (1 < Option.getD (mget (mput c (N.keyOf b a).fst.Base (IntKind.wrap IntKind.i64 (Option.getD (mget c (N.keyOf b a).fst.Base) 0 + 1))) (N.keyOf b a).fst.Base) 0) then some (Sum.inr (Sum.inl ((false, ()), (), ()))) else bif decide (b.Fresh ≤ (N.keyOf b a).fst.Base) then some (Sum.inr (Sum.inl ((false, ()), (), ()))) else bif decide (b.Epoch < (N.keyOf b a).fst.Step) then some (Sum.inr (Sum.inl ((false, ()), (), ()))) else some (Sum.inl (((), (), IntKind.wrap IntKind.i64 (a + 1), ()), (b, ()), mput c (N.keyOf b a).fst.Base (IntKind.wrap IntKind.i64 (Option.getD (mget c (N.keyOf b a).fst.Base) 0 + 1)), ())) else some (Sum.inr (Sum.inr ((), (), ())))
/-- coterie/coterielaw11.TreeNames -/
def g_law11_TreeNames : Tree × Unit → Option (Bool × Unit)
  | (a, _) => bif !decide (chkT a = 0) then some (!decide (chkT a = 0), ()) else Option.bind (lfp g_law11_TreeNames_r1 (((), (), 0, ()), (a, ()), [], ())) fun z => Sum.elim (fun x => some (x.fst.fst, ())) (fun _ => some (true, ())) z
def g_law11_TreeHeld_r2 : (Unit × Int × Bool × Int × Unit) × (Tree × Unit) × Unit → Option (((Unit × Int × Bool × Int × Unit) × (Tree × Unit) × Unit) ⊕ ((Unit × Int × Bool × Unit) × (Tree × Unit) × Unit))
  | ((_, a, b, c, _), (d, _), _) => bif decide (c < 4) then bif b then some (Sum.inl (((), a, true, IntKind.wrap IntKind.i64 (c + 1), ()), (d, ()), ())) else some (Sum.inl (((), a, held d (child a c), IntKind.wrap IntKind.i64 (c + 1), ()), (d, ()), ())) else some (Sum.inr (((), a, b, ()), (d, ()), ()))
def g_law11_TreeHeld_r1 : (Unit × Int × Unit) × (Tree × Unit) × Unit → Option (((Unit × Int × Unit) × (Tree × Unit) × Unit) ⊕ ((Bool × Unit) × Unit × Unit ⊕ Unit × Unit × Unit))
  | ((_, a, _), (b, _), _) => bif decide (a < 85) then bif decide (a < 21) then Option.bind (lfp g_law11_TreeHeld_r2 (((), a, false, 0, ()), (b, ()), ())) fun z => bif !decide (held z.snd.fst.fst z.fst.snd.fst = z.fst.snd.snd.fst) then some (Sum.inr (Sum.inl ((false, ()), (), ()))) else some (Sum.inl (((), IntKind.wrap IntKind.i64 (z.fst.snd.fst + 1), ()), (z.snd.fst.fst, ()), ())) else bif !decide (held b a = decide ((N.keyOf b a).snd = 0)) then some (Sum.inr (Sum.inl ((false, ()), (), ()))) else some (Sum.inl (((), IntKind.wrap IntKind.i64 (a + 1), ()), (b, ()), ())) else some (Sum.inr (Sum.inr ((), (), ())))
/-- coterie/coterielaw11.TreeHeld -/
def g_law11_TreeHeld : Tree × Unit → Option (Bool × Unit)
  | (a, _) => bif !decide (chkT a = 0) then some (!held a 0, ()) else Option.bind (lfp g_law11_TreeHeld_r1 (((), 0, ()), (a, ()), ())) fun z => Sum.elim (fun x => some (x.fst.fst, ())) (fun _ => some (true, ())) z
/-- coterie/coterielaw11.TreeKeys -/
def g_law11_TreeKeys : Tree × Int × Int × Unit → Option (Bool × Unit)
  | (a, b, c, _) => bif !decide ((N.keyOf a b).fst = (N.keyOf a b).fst) then some (false, ()) else bif !decide ((N.keyOf a b).snd = (N.keyOf a b).snd) then some (false, ()) else bif !decide ((pathOf a c).fst = (pathOf a c).fst) then some (false, ()) else bif !decide ((pathOf a c).snd = (pathOf a c).snd) then some (false, ()) else bif decide ((N.keyOf a 0).fst = (N.keyOf a 0).fst) then some (decide ((N.keyOf a 0).snd = (N.keyOf a 0).snd), ()) else some (false, ())
/-- coterie/coterielaw11.TreeStands -/
def g_law11_TreeStands : Tree × Int × Int × Unit → Option (Bool × Unit)
  | (a, b, c, _) => bif !decide (held a b = held a b) then some (false, ()) else bif !decide ((card a c).fst = (card a c).fst) then some (false, ()) else bif !decide ((card a c).snd = (card a c).snd) then some (false, ()) else bif decide ((stand a c).fst = (stand a c).fst) then some (decide ((stand a c).snd = (stand a c).snd), ()) else some (false, ())
def g_law11_TreePaths_r1 : (Unit × Int × Unit × Int × Unit × Int × Unit) × (Tree × Vector Key 3 × Vector Int 3 × Unit) × Unit → Option (((Unit × Int × Unit × Int × Unit × Int × Unit) × (Tree × Vector Key 3 × Vector Int 3 × Unit) × Unit) ⊕ ((Bool × Unit) × Unit × Unit ⊕ (Unit × Int × Unit × Int × Unit) × (Tree × Vector Key 3 × Unit) × Unit))
  | ((_, a, _, b, _, c, _), (d, e, f, _), _) => bif decide (c < 3) then bif decide (0 ≤ c) && decide (c < 3) then bif !decide ((N.keyOf d (Arr.get f c)).snd = 0) then some (Sum.inr (Sum.inl ((false, ()), (), ()))) else bif decide (0 ≤ c) && decide (c < 3) then bif !decide ((N.keyOf d (Arr.get f c)).fst = Arr.get e c) then some (Sum.inr (Sum.inl ((false, ()), (), ()))) else some (Sum.inl (((), a, (), b, (), IntKind.wrap IntKind.i64 (c + 1), ()), (d, e, f, ()), ())) else none else none else some (Sum.inr (Sum.inr (((), a, (), b, ()), (d, e, ()), ())))
/-- coterie/coterielaw11.TreePaths -/
def g_law11_TreePaths : Tree × Int × Unit → Option (Bool × Unit)
  | (a, b, _) => bif !decide (chkT a = 0) then bif decide ((pathOf a (IntKind.wrap IntKind.i64 (Int.tmod (IntKind.wrap IntKind.u64 b) 64))).snd = 31) then some (decide ((pathOf a (IntKind.wrap IntKind.i64 (Int.tmod (IntKind.wrap IntKind.u64 b) 64))).fst = Vector.replicate 3 (St.zero St.key)), ()) else some (false, ()) else Option.bind (lfp g_law11_TreePaths_r1 (((), IntKind.wrap IntKind.i64 (Int.tmod (IntKind.wrap IntKind.u64 b) 64), (), (pathOf a (IntKind.wrap IntKind.i64 (Int.tmod (IntKind.wrap IntKind.u64 b) 64))).snd, (), 0, ()), (a, (pathOf a (IntKind.wrap IntKind.i64 (Int.tmod (IntKind.wrap IntKind.u64 b) 64))).fst, bif decide (0 ≤ leaf (IntKind.wrap IntKind.i64 (Int.tmod (IntKind.wrap IntKind.u64 b) 64))) then pathN (IntKind.wrap IntKind.i64 (Int.tmod (IntKind.wrap IntKind.u64 b) 64)) else zero3, ()), ())) fun z => Sum.elim (fun x => some (x.fst.fst, ())) (fun z => bif !decide (z.fst.snd.snd.snd.fst = 0) then some (false, ()) else bif !decide ((N.keyOf z.snd.fst.fst 0).snd = 0) then some (false, ()) else bif !decide ((N.keyOf z.snd.fst.fst 0).fst = Arr.get z.snd.fst.snd.fst 2) then some (false, ()) else bif decide (0 ≤ z.fst.snd.fst) && decide (z.fst.snd.fst < 64) then bif decide ((Arr.get z.snd.fst.fst.Roster z.fst.snd.fst).Base = 0) then bif decide ((N.keyOf z.snd.fst.fst (leaf z.fst.snd.fst)).snd = 16) then some (!held z.snd.fst.fst (leaf z.fst.snd.fst), ()) else some (false, ()) else bif decide ((stand z.snd.fst.fst (Arr.get z.snd.fst.fst.Roster z.fst.snd.fst).Who).snd = 0) then bif decide ((N.keyOf z.snd.fst.fst (leaf z.fst.snd.fst)).snd = 0) then bif decide ((card z.snd.fst.fst (Arr.get z.snd.fst.fst.Roster z.fst.snd.fst).Who).snd = 0) then bif decide ((stand z.snd.fst.fst (Arr.get z.snd.fst.fst.Roster z.fst.snd.fst).Who).fst = Member.mk (Arr.get z.snd.fst.fst.Roster z.fst.snd.fst).Who z.fst.snd.fst z.snd.fst.fst.Epoch (N.keyOf z.snd.fst.fst (leaf z.fst.snd.fst)).fst z.snd.fst.snd.fst true false 0) then some (decide ((card z.snd.fst.fst (Arr.get z.snd.fst.fst.Roster z.fst.snd.fst).Who).fst = Card.mk (Arr.get z.snd.fst.fst.Roster z.fst.snd.fst).Who z.fst.snd.fst z.snd.fst.fst.Epoch (N.keyOf z.snd.fst.fst (leaf z.fst.snd.fst)).fst), ()) else some (false, ()) else some (false, ()) else some (false, ()) else some (false, ()) else none) z
end Go.Co.N
