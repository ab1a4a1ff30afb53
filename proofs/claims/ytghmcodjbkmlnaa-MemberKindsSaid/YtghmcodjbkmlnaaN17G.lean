/-
  What each function computes, printed by a program of my own (wip/tool) out of its run.
  For the claims about coterie.
-/
import Derived.Test.YtghmcodjbkmlnaaN10G
import Derived.Test.YtghmcodjbkmlnaaN11G
import Derived.Test.YtghmcodjbkmlnaaN12G
import Derived.Test.YtghmcodjbkmlnaaN17S
set_option maxRecDepth 100000
noncomputable section
namespace Go.Co.N
open Go Go.Co
/-- coterie/shape.Below -/
def g_shape_Below : Int × Int × Unit → Option (Bool × Unit)
  | (a, b, _) => bif decide (level a < 0) then some (false, ()) else bif decide (level b < 0) then some (false, ()) else some (decide (bw BinOp.and IntKind.u64 (mask a) (mask b) = mask b), ())
/-- cmp.Compare[int] -/
def g_cmp_Compare : Int × Int × Unit → Option (Int × Unit)
  | (a, b, _) => bif !decide (a = a) then bif !decide (b = b) then some (0, ()) else some (-1, ()) else bif !decide (b = b) then some (1, ()) else bif decide (a < b) then some (-1, ()) else bif decide (b < a) then some (1, ()) else some (0, ())
/-- coterie/member.between -/
def g_member_between : Int × Int × Int × Unit → Option (Bool × Unit)
  | (a, b, c, _) => bif decide (b ≤ a) then some (decide (a ≤ c), ()) else some (false, ())
/-- coterie/member.card -/
def g_member_card : Card × Unit → Option (Bool × Unit)
  | (a, _) => bif betw a.Who 0 255 then bif betw a.Slot 0 63 then bif betw a.Epoch 1 200 then some (good a.Leaf, ()) else some (false, ()) else some (false, ()) else some (false, ())
def g_member_Kind_r1 : (Unit × Unit × Int × Int × Unit) × (Member × Unit) × Unit → Option (((Unit × Unit × Int × Int × Unit) × (Member × Unit) × Unit) ⊕ ((Int × Unit) × (Member × Unit) × Unit ⊕ Unit × (Member × Unit) × Unit))
  | ((_, _, a, b, _), (c, _), _) => bif decide (b < a) then bif decide (0 ≤ b) && decide (b < 3) then bif !good (Arr.get c.Path b) then some (Sum.inr (Sum.inl ((b, ()), (c, ()), ()))) else some (Sum.inl (((), (), a, IntKind.wrap IntKind.i64 (b + 1), ()), (c, ()), ())) else none else some (Sum.inr (Sum.inr ((), (c, ()), ())))
/-- coterie/member.Kind -/
def g_member_Kind : Member × Unit → Option (Int × Unit)
  | (a, _) => bif decide (a = Member.mk 0 0 0 (St.zero St.key) (Vector.replicate 3 (St.zero St.key)) false false 0) then some (0, ()) else bif a.Out then bif decide (a = Member.mk a.Who 0 a.Epoch (St.zero St.key) (Vector.replicate 3 (St.zero St.key)) false true 0) then bif betw a.Who 0 255 then bif betw a.Epoch 1 200 then some (1, ()) else some (-1, ()) else some (-1, ()) else some (-1, ()) else bif !goodCard (Card.mk a.Who a.Slot a.Epoch a.Leaf) then some (-1, ()) else bif !decide (a.Behind = 0) then bif !betw a.Behind (IntKind.wrap IntKind.i64 (a.Epoch + 1)) 200 then some (-1, ()) else bif !a.Has then bif decide (a.Path = Vector.replicate 3 (St.zero St.key)) then some (2, ()) else bif a.Has then Option.bind (lfp g_member_Kind_r1 (((), (), 3, 0, ()), (a, ()), ())) fun z => Sum.elim (fun x => bif !decide (0 ≤ x.fst.fst) then some (3, ()) else some (-1, ())) (fun _ => some (3, ())) z else some (-1, ()) else bif a.Has then Option.bind (lfp g_member_Kind_r1 (((), (), 3, 0, ()), (a, ()), ())) fun z => Sum.elim (fun x => bif !decide (0 ≤ x.fst.fst) then some (3, ()) else some (-1, ())) (fun _ => some (3, ())) z else some (-1, ()) else bif !a.Has then bif decide (a.Path = Vector.replicate 3 (St.zero St.key)) then some (2, ()) else bif a.Has then Option.bind (lfp g_member_Kind_r1 (((), (), 3, 0, ()), (a, ()), ())) fun z => Sum.elim (fun x => bif !decide (0 ≤ x.fst.fst) then some (3, ()) else some (-1, ())) (fun _ => some (3, ())) z else some (-1, ()) else bif a.Has then Option.bind (lfp g_member_Kind_r1 (((), (), 3, 0, ()), (a, ()), ())) fun z => Sum.elim (fun x => bif !decide (0 ≤ x.fst.fst) then some (3, ()) else some (-1, ())) (fun _ => some (3, ())) z else some (-1, ())
/-- coterie/member.Group -/
def g_member_Group : Member × Unit → Option (Key × Int × Unit)
  | (a, _) => bif decide (kind a = 1) then some (Key.mk 0 0, 20, ()) else bif decide (kind a = 2) then some (Key.mk 0 0, 22, ()) else bif decide (kind a = 3) then some (Arr.get a.Path 2, 0, ()) else some (Key.mk 0 0, 30, ())
/-- coterie/coterieref15.GoodCard -/
def g_ref15_GoodCard : Card × Unit → Option (Bool × Unit)
  | (a, _) => bif decide (0 ≤ a.Who) then bif decide (a.Who < 256) then bif decide (0 ≤ a.Slot) then bif decide (a.Slot < 64) then bif decide (1 ≤ a.Epoch) then bif decide (a.Epoch ≤ 200) then some (good a.Leaf, ()) else some (false, ()) else some (false, ()) else some (false, ()) else some (false, ()) else some (false, ()) else some (false, ())
def g_ref15_Kind_r1 : (Unit × Int × Unit) × (Member × Unit) × Unit → Option (((Unit × Int × Unit) × (Member × Unit) × Unit) ⊕ ((Int × Unit) × Unit × Unit ⊕ Unit × Unit × Unit))
  | ((_, a, _), (b, _), _) => bif decide (a < 3) then bif decide (0 ≤ a) && decide (a < 3) then bif !good (Arr.get b.Path a) then some (Sum.inr (Sum.inl ((-1, ()), (), ()))) else some (Sum.inl (((), IntKind.wrap IntKind.i64 (a + 1), ()), (b, ()), ())) else none else some (Sum.inr (Sum.inr ((), (), ())))
/-- coterie/coterieref15.Kind -/
def g_ref15_Kind : Member × Unit → Option (Int × Unit)
  | (a, _) => bif decide (a = Member.mk 0 0 0 (St.zero St.key) (Vector.replicate 3 (St.zero St.key)) false false 0) then some (0, ()) else bif a.Out then bif decide (a = Member.mk a.Who 0 a.Epoch (St.zero St.key) (Vector.replicate 3 (St.zero St.key)) false true 0) then bif decide (0 ≤ a.Who) then bif decide (a.Who < 256) then bif decide (1 ≤ a.Epoch) then bif decide (a.Epoch ≤ 200) then some (1, ()) else some (-1, ()) else some (-1, ()) else some (-1, ()) else some (-1, ()) else some (-1, ()) else bif !goodCard (Card.mk a.Who a.Slot a.Epoch a.Leaf) then some (-1, ()) else bif !decide (a.Behind = 0) then bif decide (a.Behind ≤ a.Epoch) then some (-1, ()) else bif decide (200 < a.Behind) then some (-1, ()) else bif !a.Has then bif !decide (a.Path = Vector.replicate 3 (St.zero St.key)) then some (-1, ()) else some (2, ()) else Option.bind (lfp g_ref15_Kind_r1 (((), 0, ()), (a, ()), ())) fun z => Sum.elim (fun x => some (x.fst.fst, ())) (fun _ => some (3, ())) z else bif !a.Has then bif !decide (a.Path = Vector.replicate 3 (St.zero St.key)) then some (-1, ()) else some (2, ()) else Option.bind (lfp g_ref15_Kind_r1 (((), 0, ()), (a, ()), ())) fun z => Sum.elim (fun x => some (x.fst.fst, ())) (fun _ => some (3, ())) z
/-- coterie/coterieref15.Group -/
def g_ref15_Group : Member × Unit → Option (Key × Int × Unit)
  | (a, _) => bif decide (kind a = 1) then some (Key.mk 0 0, 20, ()) else bif decide (kind a = 2) then some (Key.mk 0 0, 22, ()) else bif decide (kind a = 3) then some (Arr.get a.Path 2, 0, ()) else some (Key.mk 0 0, 30, ())
/-- coterie/wire.between -/
def g_wire_between : Int × Int × Int × Unit → Option (Bool × Unit)
  | (a, b, c, _) => bif decide (b ≤ a) then some (decide (a ≤ c), ()) else some (false, ())
/-- coterie/wire.epoch -/
def g_wire_epoch : Int × Unit → Option (Bool × Unit)
  | (a, _) => some (betw a 1 200, ())
/-- coterie/wire.seat -/
def g_wire_seat : Seat × Unit → Option (Bool × Unit)
  | (a, _) => bif betw a.Who 0 255 then some (betw a.Slot 0 63, ()) else some (false, ())
/-- coterie/wire.box -/
def g_wire_box : Box × Unit → Option (Bool × Unit)
  | (a, _) => bif good a.Under then some (good a.Load, ()) else some (false, ())
/-- coterie/wire.item -/
def g_wire_item : Co.Item × Unit → Option (Bool × Unit)
  | (a, _) => bif betw a.Node 0 20 then bif !decide (a.From = a.Node) then bif below a.Node a.From then some (goodBox a.Box, ()) else some (false, ()) else some (false, ()) else some (false, ())
/-- coterie/wire.empty -/
def g_wire_empty : Rekey × Unit → Option (Bool × Unit)
  | (a, _) => bif decide (a.Epoch = 0) then some (decide (IntKind.wrap IntKind.i64 (IntKind.wrap IntKind.i64 ((↑(List.length a.Leaves) : Int) + (↑(List.length a.Joins) : Int)) + (↑(List.length a.Items) : Int)) = 0), ()) else some (false, ())
def g_wire_Good_r1 : (Unit × Vector Bool 4 × Int × Unit) × (Message × Unit) × Unit → Option (((Unit × Vector Bool 4 × Int × Unit) × (Message × Unit) × Unit) ⊕ ((Bool × Unit) × Unit × Unit ⊕ (Unit × Unit) × (Message × Unit) × Unit))
  | ((_, a, b, _), (c, _), _) => bif decide (b < 4) then bif decide (0 ≤ b) && decide (b < 4) then bif Arr.get a b then bif !decide (IntKind.wrap IntKind.i64 (b + 1) = c.Kind) then some (Sum.inr (Sum.inl ((false, ()), (), ()))) else some (Sum.inl (((), a, IntKind.wrap IntKind.i64 (b + 1), ()), (c, ()), ())) else some (Sum.inl (((), a, IntKind.wrap IntKind.i64 (b + 1), ()), (c, ()), ())) else none else some (Sum.inr (Sum.inr (((), ()), (c, ()), ())))
def g_wire_Good_r2 : (List Seat × Int × Unit × List Seat × Int × Int × Unit) × (Message × Rekey × Unit) × Unit → Option (((List Seat × Int × Unit × List Seat × Int × Int × Unit) × (Message × Rekey × Unit) × Unit) ⊕ ((Bool × Unit) × (Message × Rekey × Unit) × Unit ⊕ (List Seat × Int × Unit) × (Message × Rekey × Unit) × Unit))
  | ((a, b, _, c, d, e, _), (f, g, _), _) => bif decide (e < d) then bif decide (0 ≤ e) && decide (e < (↑(List.length c) : Int)) then bif !goodSeat (lat c e) then some (Sum.inr (Sum.inl ((false, ()), (f, g, ()), ()))) else some (Sum.inl ((a, b, (), c, d, IntKind.wrap IntKind.i64 (e + 1), ()), (f, g, ()), ())) else none else some (Sum.inr (Sum.inr ((a, b, ()), (f, g, ()), ())))
def g_wire_Good_r4 : (List Co.Item × Int × Unit × List Co.Item × Int × Int × Unit) × (Message × Rekey × Unit) × Unit → Option (((List Co.Item × Int × Unit × List Co.Item × Int × Int × Unit) × (Message × Rekey × Unit) × Unit) ⊕ ((Bool × Unit) × (Message × Rekey × Unit) × Unit ⊕ (List Co.Item × Int × Unit) × (Message × Rekey × Unit) × Unit))
  | ((a, b, _, c, d, e, _), (f, g, _), _) => bif decide (e < d) then bif decide (0 ≤ e) && decide (e < (↑(List.length c) : Int)) then bif !goodItem (lat c e) then some (Sum.inr (Sum.inl ((false, ()), (f, g, ()), ()))) else some (Sum.inl ((a, b, (), c, d, IntKind.wrap IntKind.i64 (e + 1), ()), (f, g, ()), ())) else none else some (Sum.inr (Sum.inr ((a, b, ()), (f, g, ()), ())))
def g_wire_Good_r9 : (Unit × Int × Unit × Unit × Int × Int × Unit) × (Message × Reply × Unit) × Unit → Option (((Unit × Int × Unit × Unit × Int × Int × Unit) × (Message × Reply × Unit) × Unit) ⊕ ((Bool × Unit) × (Message × Reply × Unit) × Unit ⊕ (Unit × Int × Unit) × (Message × Reply × Unit) × Unit))
  | ((_, a, _, _, b, c, _), (d, e, _), _) => bif decide (c < b) then bif decide (0 ≤ c) && decide (c < 3) then bif !goodBox (Arr.get e.Path c) then some (Sum.inr (Sum.inl ((false, ()), (d, e, ()), ()))) else some (Sum.inl (((), a, (), (), b, IntKind.wrap IntKind.i64 (c + 1), ()), (d, e, ()), ())) else none else some (Sum.inr (Sum.inr (((), a, ()), (d, e, ()), ())))
/-- coterie/wire.Good -/
def g_wire_Good : Message × Unit → Option (Bool × Unit)
  | (a, _) => bif !betw a.Kind 1 4 then some (false, ()) else Option.bind (lfp g_wire_Good_r1 (((), Arr.put (Arr.put (Arr.put (Arr.put (Vector.replicate 4 false) 0 !noRekey a.Rekey) 1 !decide (a.Request = Request.mk 0 0)) 2 !decide (a.Reply = Reply.mk 0 0 0 (Vector.replicate 3 (St.zero St.box)))) 3 !decide (a.Sealed = Sealed.mk 0 (St.zero St.key) (bytesOf [])), 0, ()), (a, ()), ())) fun z => Sum.elim (fun x => some (x.fst.fst, ())) (fun z => bif decide (z.snd.fst.fst.Kind = 1) then bif betw z.snd.fst.fst.Rekey.Epoch 1 200 then Option.bind (lfp g_wire_Good_r2 ((z.snd.fst.fst.Rekey.Leaves, 64, (), z.snd.fst.fst.Rekey.Leaves, (↑(List.length z.snd.fst.fst.Rekey.Leaves) : Int), 0, ()), (z.snd.fst.fst, z.snd.fst.fst.Rekey, ()), ())) fun z => Sum.elim (fun x => bif x.fst.fst then Option.bind (lfp g_wire_Good_r2 ((x.snd.fst.snd.fst.Joins, 64, (), x.snd.fst.snd.fst.Joins, (↑(List.length x.snd.fst.snd.fst.Joins) : Int), 0, ()), (x.snd.fst.fst, x.snd.fst.snd.fst, ()), ())) fun z => Sum.elim (fun x => bif x.fst.fst then Option.bind (lfp g_wire_Good_r4 ((x.snd.fst.snd.fst.Items, 1536, (), x.snd.fst.snd.fst.Items, (↑(List.length x.snd.fst.snd.fst.Items) : Int), 0, ()), (x.snd.fst.fst, x.snd.fst.snd.fst, ()), ())) fun z => Sum.elim (fun x => some (x.fst.fst, ())) (fun z => some (decide ((↑(List.length z.fst.fst) : Int) ≤ z.fst.snd.fst), ())) z else some (false, ())) (fun z => bif decide ((↑(List.length z.fst.fst) : Int) ≤ z.fst.snd.fst) then Option.bind (lfp g_wire_Good_r4 ((z.snd.fst.snd.fst.Items, 1536, (), z.snd.fst.snd.fst.Items, (↑(List.length z.snd.fst.snd.fst.Items) : Int), 0, ()), (z.snd.fst.fst, z.snd.fst.snd.fst, ()), ())) fun z => Sum.elim (fun x => some (x.fst.fst, ())) (fun z => some (decide ((↑(List.length z.fst.fst) : Int) ≤ z.fst.snd.fst), ())) z else some (false, ())) z else some (false, ())) (fun z => bif decide ((↑(List.length z.fst.fst) : Int) ≤ z.fst.snd.fst) then Option.bind (lfp g_wire_Good_r2 ((z.snd.fst.snd.fst.Joins, 64, (), z.snd.fst.snd.fst.Joins, (↑(List.length z.snd.fst.snd.fst.Joins) : Int), 0, ()), (z.snd.fst.fst, z.snd.fst.snd.fst, ()), ())) fun z => Sum.elim (fun x => bif x.fst.fst then Option.bind (lfp g_wire_Good_r4 ((x.snd.fst.snd.fst.Items, 1536, (), x.snd.fst.snd.fst.Items, (↑(List.length x.snd.fst.snd.fst.Items) : Int), 0, ()), (x.snd.fst.fst, x.snd.fst.snd.fst, ()), ())) fun z => Sum.elim (fun x => some (x.fst.fst, ())) (fun z => some (decide ((↑(List.length z.fst.fst) : Int) ≤ z.fst.snd.fst), ())) z else some (false, ())) (fun z => bif decide ((↑(List.length z.fst.fst) : Int) ≤ z.fst.snd.fst) then Option.bind (lfp g_wire_Good_r4 ((z.snd.fst.snd.fst.Items, 1536, (), z.snd.fst.snd.fst.Items, (↑(List.length z.snd.fst.snd.fst.Items) : Int), 0, ()), (z.snd.fst.fst, z.snd.fst.snd.fst, ()), ())) fun z => Sum.elim (fun x => some (x.fst.fst, ())) (fun z => some (decide ((↑(List.length z.fst.fst) : Int) ≤ z.fst.snd.fst), ())) z else some (false, ())) z else some (false, ())) z else some (false, ()) else bif decide (z.snd.fst.fst.Kind = 2) then bif goodSeat (Seat.mk z.snd.fst.fst.Request.Who 0) then some (betw z.snd.fst.fst.Request.Epoch 1 200, ()) else some (false, ()) else bif decide (z.snd.fst.fst.Kind = 3) then bif goodSeat (Seat.mk z.snd.fst.fst.Reply.Who z.snd.fst.fst.Reply.Slot) then bif betw z.snd.fst.fst.Reply.Epoch 1 200 then Option.bind (lfp g_wire_Good_r9 (((), 3, (), (), 3, 0, ()), (z.snd.fst.fst, z.snd.fst.fst.Reply, ()), ())) fun z => Sum.elim (fun x => some (x.fst.fst, ())) (fun z => some (decide (3 ≤ z.fst.snd.fst), ())) z else some (false, ()) else some (false, ()) else bif betw z.snd.fst.fst.Sealed.Epoch 1 200 then bif good z.snd.fst.fst.Sealed.Under then some (decide ((↑(ByteArray.size z.snd.fst.fst.Sealed.Text) : Int) ≤ 64), ()) else some (false, ()) else some (false, ())) z
/-- coterie/coterieref14.epoch -/
def g_ref14_epoch : Int × Unit → Option (Bool × Unit)
  | (a, _) => bif decide (1 ≤ a) then some (decide (a ≤ 200), ()) else some (false, ())
/-- coterie/coterieref14.GoodSealed -/
def g_ref14_GoodSealed : Sealed × Unit → Option (Bool × Unit)
  | (a, _) => bif betw a.Epoch 1 200 then bif good a.Under then some (decide ((↑(ByteArray.size a.Text) : Int) ≤ 64), ()) else some (false, ()) else some (false, ())
/-- coterie/data.Seal -/
def g_data_Seal : Member × ByteArray × Unit → Option (Sealed × Int × Unit)
  | (a, b, _) => bif !decide ((group a).snd = 0) then some (Sealed.mk 0 (St.zero St.key) (bytesOf []), (group a).snd, ()) else bif decide (64 < (↑(ByteArray.size b) : Int)) then some (Sealed.mk 0 (St.zero St.key) (bytesOf []), 25, ()) else some (Sealed.mk a.Epoch (group a).fst b, 0, ())
/-- coterie/data.Open -/
def g_data_Open : Member × Sealed × Unit → Option (ByteArray × Int × Unit)
  | (a, b, _) => bif !decide ((group a).snd = 0) then some (bytesOf [], (group a).snd, ()) else bif !goodMsg (Message.mk 4 (St.zero St.rekey) (St.zero St.request) (St.zero St.reply) b) then some (bytesOf [], 13, ()) else bif decide (cmpI b.Epoch a.Epoch = -1) then some (bytesOf [], 21, ()) else bif decide (cmpI b.Epoch a.Epoch = 1) then some (bytesOf [], 32, ()) else bif !decide (b.Under = (group a).fst) then some (bytesOf [], 5, ()) else some (b.Text, 0, ())
/-- coterie/coterieref17.Seal -/
def g_ref17_Seal : Member × ByteArray × Unit → Option (Sealed × Int × Unit)
  | (a, b, _) => bif !decide ((group a).snd = 0) then some (Sealed.mk 0 (St.zero St.key) (bytesOf []), (group a).snd, ()) else bif decide (64 < (↑(ByteArray.size b) : Int)) then some (Sealed.mk 0 (St.zero St.key) (bytesOf []), 25, ()) else some (Sealed.mk a.Epoch (group a).fst b, 0, ())
/-- coterie/coterieref17.Open -/
def g_ref17_Open : Member × Sealed × Unit → Option (ByteArray × Int × Unit)
  | (a, b, _) => bif !decide ((group a).snd = 0) then some (bytesOf [], (group a).snd, ()) else bif !goodSealed b then some (bytesOf [], 13, ()) else bif decide (b.Epoch < a.Epoch) then some (bytesOf [], 21, ()) else bif decide (a.Epoch < b.Epoch) then some (bytesOf [], 32, ()) else bif !decide (b.Under = (group a).fst) then some (bytesOf [], 5, ()) else some (b.Text, 0, ())
/-- coterie/coterielaw17.lives -/
def g_law17_lives : Unit → Option (Bool × Unit)
  | _ => some (true, ())
/-- coterie/coterielaw17.DataSeals -/
def g_law17_DataSeals : Member × ByteArray × Unit → Option (Bool × Unit)
  | (a, b, _) => bif decide ((sealM a b).fst = (sealM a b).fst) then some (decide ((sealM a b).snd = (sealM a b).snd), ()) else some (false, ())
/-- coterie/coterielaw17.DataOpens -/
def g_law17_DataOpens : Member × Sealed × Unit → Option (Bool × Unit)
  | (a, b, _) => bif decide ((openM a b).fst = (openM a b).fst) then some (decide ((openM a b).snd = (openM a b).snd), ()) else some (false, ())
def g_law17_DataInStep_r1 : (ByteArray × Unit × Unit × Int × Unit) × (Tree × Sealed × Unit) × Unit → Option (((ByteArray × Unit × Unit × Int × Unit) × (Tree × Sealed × Unit) × Unit) ⊕ ((Bool × Unit) × Unit × Unit ⊕ Unit × Unit × Unit))
  | ((a, _, _, b, _), (c, d, _), _) => bif decide (b < 64) then bif decide (0 ≤ b) && decide (b < 64) then bif decide ((Arr.get c.Roster b).Base = 0) then some (Sum.inl ((a, (), (), IntKind.wrap IntKind.i64 (b + 1), ()), (c, d, ()), ())) else bif decide (0 ≤ b) && decide (b < 64) then bif !decide ((stand c (Arr.get c.Roster b).Who).snd = 0) then some (Sum.inr (Sum.inl ((false, ()), (), ()))) else bif !decide ((openM (stand c (Arr.get c.Roster b).Who).fst d).snd = 0) then some (Sum.inr (Sum.inl ((false, ()), (), ()))) else bif !decide ((openM (stand c (Arr.get c.Roster b).Who).fst d).fst = a) then some (Sum.inr (Sum.inl ((false, ()), (), ()))) else bif !decide ((openM (Member.mk (stand c (Arr.get c.Roster b).Who).fst.Who (stand c (Arr.get c.Roster b).Who).fst.Slot (stand c (Arr.get c.Roster b).Who).fst.Epoch (stand c (Arr.get c.Roster b).Who).fst.Leaf (Vector.replicate 3 (St.zero St.key)) false (stand c (Arr.get c.Roster b).Who).fst.Out (stand c (Arr.get c.Roster b).Who).fst.Behind) d).snd = 22) then some (Sum.inr (Sum.inl ((false, ()), (), ()))) else bif !decide ((openM (Member.mk (stand c (Arr.get c.Roster b).Who).fst.Who (stand c (Arr.get c.Roster b).Who).fst.Slot (stand c (Arr.get c.Roster b).Who).fst.Epoch (stand c (Arr.get c.Roster b).Who).fst.Leaf (Vector.replicate 3 (St.zero St.key)) false (stand c (Arr.get c.Roster b).Who).fst.Out (stand c (Arr.get c.Roster b).Who).fst.Behind) d).fst = bytesOf []) then some (Sum.inr (Sum.inl ((false, ()), (), ()))) else some (Sum.inl ((a, (), (), IntKind.wrap IntKind.i64 (b + 1), ()), (c, d, ()), ())) else none else none else some (Sum.inr (Sum.inr ((), (), ())))
/-- coterie/coterielaw17.DataInStep -/
def g_law17_DataInStep : Tree × Int × ByteArray × Unit → Option (Bool × Unit)
  | (a, b, c, _) => bif !decide ((stand a b).snd = 0) then some (true, ()) else bif decide (64 < (↑(ByteArray.size c) : Int)) then bif decide ((sealM (stand a b).fst c).snd = 25) then some (decide ((sealM (stand a b).fst c).fst = Sealed.mk 0 (St.zero St.key) (bytesOf [])), ()) else some (false, ()) else bif !decide ((sealM (stand a b).fst c).snd = 0) then some (false, ()) else bif !decide ((sealM (stand a b).fst c).fst.Text = c) then some (false, ()) else bif !decide ((sealM (stand a b).fst c).fst.Epoch = a.Epoch) then some (false, ()) else bif !decide ((sealM (stand a b).fst c).fst.Under = Arr.get a.Keys 0) then some (false, ()) else Option.bind (lfp g_law17_DataInStep_r1 ((c, (), (), 0, ()), (a, (sealM (stand a b).fst c).fst, ()), ())) fun z => Sum.elim (fun x => some (x.fst.fst, ())) (fun _ => some (true, ())) z
end Go.Co.N
