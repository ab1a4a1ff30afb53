/-
  What each function computes, printed by a program of my own (wip/tool) out of its run.
  Members: what messages of steps do to a device's state. What their functions are to answer.
  What each function computes, printed by a program of my own (wip/tool) out of its run.
  What the functions of recovery are to answer.
  What each function computes, printed by a program of my own (wip/tool) out of its run.
  The functions of keys and of the ratchet answer what they are to answer; the laws of chapter 10.
  Turns, leaves' keys, paths; the laws of chapter 10.
  The laws of chapter 10.
  No conditions. Own text, for the claims about coterie.
-/
import Derived.Test.YtnepdmajobfcdaaPartC

section
set_option maxRecDepth 100000
noncomputable section
namespace Go.Co.N
open Go Go.Co
/-- coterie/shape.Below -/
def g_shape_Below : Int × Int × Unit → Option (Bool × Unit)
  | (a, b, _) => bif decide (level a < 0) then some (false, ()) else bif decide (level b < 0) then some (false, ()) else some (decide (bw BinOp.and IntKind.u64 (mask a) (mask b) = mask b), ())
/-- cmp.Compare[int] -/
def g_cmp_Compare : Int × Int × Unit → Option (Int × Unit)
  | (a, b, _) => bif !decide (a = a) then bif !decide (b = b) then some (0, ()) else some (-1, ()) else bif !decide (b = b) then some (1, ()) else bif decide (a < b) then some (-1, ()) else bif decide (b < a) then some (1, ()) else some (0, ())
/-- coterie/member.between -/
def g_member_between : Int × Int × Int × Unit → Option (Bool × Unit)
  | (a, b, c, _) => bif decide (b ≤ a) then some (decide (a ≤ c), ()) else some (false, ())
/-- coterie/member.card -/
def g_member_card : Card × Unit → Option (Bool × Unit)
  | (a, _) => bif betw a.Who 0 255 then bif betw a.Slot 0 63 then bif betw a.Epoch 1 200 then some (good a.Leaf, ()) else some (false, ()) else some (false, ()) else some (false, ())
def g_member_Kind_r1 : (Unit × Unit × Int × Int × Unit) × (Member × Unit) × Unit → Option (((Unit × Unit × Int × Int × Unit) × (Member × Unit) × Unit) ⊕ ((Int × Unit) × (Member × Unit) × Unit ⊕ Unit × (Member × Unit) × Unit))
  | ((_, _, a, b, _), (c, _), _) => bif decide (b < a) then bif decide (0 ≤ b) && decide (b < 3) then bif !good (Arr.get c.Path b) then some (Sum.inr (Sum.inl ((b, ()), (c, ()), ()))) else some (Sum.inl (((), (), a, IntKind.wrap IntKind.i64 (b + 1), ()), (c, ()), ())) else none else some (Sum.inr (Sum.inr ((), (c, ()), ())))
/-- coterie/member.Kind -/
def g_member_Kind : Member × Unit → Option (Int × Unit)
  | (a, _) => bif decide (a = Member.mk 0 0 0 (St.zero St.key) (Vector.replicate 3 (St.zero St.key)) false false 0) then some (0, ()) else bif a.Out then bif decide (a = Member.mk a.Who 0 a.Epoch (St.zero St.key) (Vector.replicate 3 (St.zero St.key)) false true 0) then bif betw a.Who 0 255 then bif betw a.Epoch 1 200 then some (1, ()) else some (-1, ()) else some (-1, ()) else some (-1, ()) else bif !goodCard (Card.mk a.Who a.Slot a.Epoch a.Leaf) then some (-1, ()) else bif !decide (a.Behind = 0) then bif !betw a.Behind (IntKind.wrap IntKind.i64 (a.Epoch + 1)) 200 then some (-1, ()) else bif !a.Has then bif decide (a.Path = Vector.replicate 3 (St.zero St.key)) then some (2, ()) else bif a.Has then Option.bind (lfp g_member_Kind_r1 (((), (), 3, 0, ()), (a, ()), ())) fun z => Sum.elim (fun x => bif !decide (0 ≤ x.fst.fst) then some (3, ()) else some (-1, ())) (fun _ => some (3, ())) z else some (-1, ()) else bif a.Has then Option.bind (lfp g_member_Kind_r1 (((), (), 3, 0, ()), (a, ()), ())) fun z => Sum.elim (fun x => bif !decide (0 ≤ x.fst.fst) then some (3, ()) else some (-1, ())) (fun _ => some (3, ())) z else some (-1, ()) else bif !a.Has then bif decide (a.Path = Vector.replicate 3 (St.zero St.key)) then some (2, ()) else bif a.Has then Option.bind (lfp g_member_Kind_r1 (((), (), 3, 0, ()), (a, ()), ())) fun z => Sum.elim (fun x => bif !decide (0 ≤ x.fst.fst) then some (3, ()) else some (-1, ())) (fun _ => some (3, ())) z else some (-1, ()) else bif a.Has then Option.bind (lfp g_member_Kind_r1 (((), (), 3, 0, ()), (a, ()), ())) fun z => Sum.elim (fun x => bif !decide (0 ≤ x.fst.fst) then some (3, ()) else some (-1, ())) (fun _ => some (3, ())) z else some (-1, ())
/-- coterie/member.Group -/
def g_member_Group : Member × Unit → Option (Key × Int × Unit)
  | (a, _) => bif decide (kind a = 1) then some (Key.mk 0 0, 20, ()) else bif decide (kind a = 2) then some (Key.mk 0 0, 22, ()) else bif decide (kind a = 3) then some (Arr.get a.Path 2, 0, ()) else some (Key.mk 0 0, 30, ())
/-- coterie/coterieref15.GoodCard -/
def g_ref15_GoodCard : Card × Unit → Option (Bool × Unit)
  | (a, _) => bif decide (0 ≤ a.Who) then bif decide (a.Who < 256) then bif decide (0 ≤ a.Slot) then bif decide (a.Slot < 64) then bif decide (1 ≤ a.Epoch) then bif decide (a.Epoch ≤ 200) then some (good a.Leaf, ()) else some (false, ()) else some (false, ()) else some (false, ()) else some (false, ()) else some (false, ()) else some (false, ())
def g_ref15_Kind_r1 : (Unit × Int × Unit) × (Member × Unit) × Unit → Option (((Unit × Int × Unit) × (Member × Unit) × Unit) ⊕ ((Int × Unit) × Unit × Unit ⊕ Unit × Unit × Unit))
  | ((_, a, _), (b, _), _) => bif decide (a < 3) then bif decide (0 ≤ a) && decide (a < 3) then bif !good (Arr.get b.Path a) then some (Sum.inr (Sum.inl ((-1, ()), (), ()))) else some (Sum.inl (((), IntKind.wrap IntKind.i64 (a + 1), ()), (b, ()), ())) else none else some (Sum.inr (Sum.inr ((), (), ())))
/-- coterie/coterieref15.Kind -/
def g_ref15_Kind : Member × Unit → Option (Int × Unit)
  | (a, _) => bif decide (a = Member.mk 0 0 0 (St.zero St.key) (Vector.replicate 3 (St.zero St.key)) false false 0) then some (0, ()) else bif a.Out then bif decide (a = Member.mk a.Who 0 a.Epoch (St.zero St.key) (Vector.replicate 3 (St.zero St.key)) false true 0) then bif decide (0 ≤ a.Who) then bif decide (a.Who < 256) then bif decide (1 ≤ a.Epoch) then bif decide (a.Epoch ≤ 200) then some (1, ()) else some (-1, ()) else some (-1, ()) else some (-1, ()) else some (-1, ()) else some (-1, ()) else bif !goodCard (Card.mk a.Who a.Slot a.Epoch a.Leaf) then some (-1, ()) else bif !decide (a.Behind = 0) then bif decide (a.Behind ≤ a.Epoch) then some (-1, ()) else bif decide (200 < a.Behind) then some (-1, ()) else bif !a.Has then bif !decide (a.Path = Vector.replicate 3 (St.zero St.key)) then some (-1, ()) else some (2, ()) else Option.bind (lfp g_ref15_Kind_r1 (((), 0, ()), (a, ()), ())) fun z => Sum.elim (fun x => some (x.fst.fst, ())) (fun _ => some (3, ())) z else bif !a.Has then bif !decide (a.Path = Vector.replicate 3 (St.zero St.key)) then some (-1, ()) else some (2, ()) else Option.bind (lfp g_ref15_Kind_r1 (((), 0, ()), (a, ()), ())) fun z => Sum.elim (fun x => some (x.fst.fst, ())) (fun _ => some (3, ())) z
/-- coterie/coterieref15.Group -/
def g_ref15_Group : Member × Unit → Option (Key × Int × Unit)
  | (a, _) => bif decide (kind a = 1) then some (Key.mk 0 0, 20, ()) else bif decide (kind a = 2) then some (Key.mk 0 0, 22, ()) else bif decide (kind a = 3) then some (Arr.get a.Path 2, 0, ()) else some (Key.mk 0 0, 30, ())
/-- coterie/wire.between -/
def g_wire_between : Int × Int × Int × Unit → Option (Bool × Unit)
  | (a, b, c, _) => bif decide (b ≤ a) then some (decide (a ≤ c), ()) else some (false, ())
/-- coterie/wire.epoch -/
def g_wire_epoch : Int × Unit → Option (Bool × Unit)
  | (a, _) => some (betw a 1 200, ())
/-- coterie/wire.seat -/
def g_wire_seat : Seat × Unit → Option (Bool × Unit)
  | (a, _) => bif betw a.Who 0 255 then some (betw a.Slot 0 63, ()) else some (false, ())
/-- coterie/wire.box -/
def g_wire_box : Box × Unit → Option (Bool × Unit)
  | (a, _) => bif good a.Under then some (good a.Load, ()) else some (false, ())
/-- coterie/wire.item -/
def g_wire_item : Co.Item × Unit → Option (Bool × Unit)
  | (a, _) => bif betw a.Node 0 20 then bif !decide (a.From = a.Node) then bif below a.Node a.From then some (goodBox a.Box, ()) else some (false, ()) else some (false, ()) else some (false, ())
/-- coterie/wire.empty -/
def g_wire_empty : Rekey × Unit → Option (Bool × Unit)
  | (a, _) => bif decide (a.Epoch = 0) then some (decide (IntKind.wrap IntKind.i64 (IntKind.wrap IntKind.i64 ((↑(List.length a.Leaves) : Int) + (↑(List.length a.Joins) : Int)) + (↑(List.length a.Items) : Int)) = 0), ()) else some (false, ())
def g_wire_Good_r1 : (Unit × Vector Bool 4 × Int × Unit) × (Message × Unit) × Unit → Option (((Unit × Vector Bool 4 × Int × Unit) × (Message × Unit) × Unit) ⊕ ((Bool × Unit) × Unit × Unit ⊕ (Unit × Unit) × (Message × Unit) × Unit))
  | ((_, a, b, _), (c, _), _) => bif decide (b < 4) then bif decide (0 ≤ b) && decide (b < 4) then bif Arr.get a b then bif !decide (IntKind.wrap IntKind.i64 (b + 1) = c.Kind) then some (Sum.inr (Sum.inl ((false, ()), (), ()))) else some (Sum.inl (((), a, IntKind.wrap IntKind.i64 (b + 1), ()), (c, ()), ())) else some (Sum.inl (((), a, IntKind.wrap IntKind.i64 (b + 1), ()), (c, ()), ())) else none else some (Sum.inr (Sum.inr (((), ()), (c, ()), ())))
def g_wire_Good_r2 : (List Seat × Int × Unit × List Seat × Int × Int × Unit) × (Message × Rekey × Unit) × Unit → Option (((List Seat × Int × Unit × List Seat × Int × Int × Unit) × (Message × Rekey × Unit) × Unit) ⊕ ((Bool × Unit) × (Message × Rekey × Unit) × Unit ⊕ (List Seat × Int × Unit) × (Message × Rekey × Unit) × Unit))
  | ((a, b, _, c, d, e, _), (f, g, _), _) => bif decide (e < d) then bif decide (0 ≤ e) && decide (e < (↑(List.length c) : Int)) then bif !goodSeat (lat c e) then some (Sum.inr (Sum.inl ((false, ()), (f, g, ()), ()))) else some (Sum.inl ((a, b, (), c, d, IntKind.wrap IntKind.i64 (e + 1), ()), (f, g, ()), ())) else none else some (Sum.inr (Sum.inr ((a, b, ()), (f, g, ()), ())))
def g_wire_Good_r4 : (List Co.Item × Int × Unit × List Co.Item × Int × Int × Unit) × (Message × Rekey × Unit) × Unit → Option (((List Co.Item × Int × Unit × List Co.Item × Int × Int × Unit) × (Message × Rekey × Unit) × Unit) ⊕ ((Bool × Unit) × (Message × Rekey × Unit) × Unit ⊕ (List Co.Item × Int × Unit) × (Message × Rekey × Unit) × Unit))
  | ((a, b, _, c, d, e, _), (f, g, _), _) => bif decide (e < d) then bif decide (0 ≤ e) && decide (e < (↑(List.length c) : Int)) then bif !goodItem (lat c e) then some (Sum.inr (Sum.inl ((false, ()), (f, g, ()), ()))) else some (Sum.inl ((a, b, (), c, d, IntKind.wrap IntKind.i64 (e + 1), ()), (f, g, ()), ())) else none else some (Sum.inr (Sum.inr ((a, b, ()), (f, g, ()), ())))
def g_wire_Good_r9 : (Unit × Int × Unit × Unit × Int × Int × Unit) × (Message × Reply × Unit) × Unit → Option (((Unit × Int × Unit × Unit × Int × Int × Unit) × (Message × Reply × Unit) × Unit) ⊕ ((Bool × Unit) × (Message × Reply × Unit) × Unit ⊕ (Unit × Int × Unit) × (Message × Reply × Unit) × Unit))
  | ((_, a, _, _, b, c, _), (d, e, _), _) => bif decide (c < b) then bif decide (0 ≤ c) && decide (c < 3) then bif !goodBox (Arr.get e.Path c) then some (Sum.inr (Sum.inl ((false, ()), (d, e, ()), ()))) else some (Sum.inl (((), a, (), (), b, IntKind.wrap IntKind.i64 (c + 1), ()), (d, e, ()), ())) else none else some (Sum.inr (Sum.inr (((), a, ()), (d, e, ()), ())))
/-- coterie/wire.Good -/
def g_wire_Good : Message × Unit → Option (Bool × Unit)
  | (a, _) => bif !betw a.Kind 1 4 then some (false, ()) else Option.bind (lfp g_wire_Good_r1 (((), Arr.put (Arr.put (Arr.put (Arr.put (Vector.replicate 4 false) 0 !noRekey a.Rekey) 1 !decide (a.Request = Request.mk 0 0)) 2 !decide (a.Reply = Reply.mk 0 0 0 (Vector.replicate 3 (St.zero St.box)))) 3 !decide (a.Sealed = Sealed.mk 0 (St.zero St.key) (bytesOf [])), 0, ()), (a, ()), ())) fun z => Sum.elim (fun x => some (x.fst.fst, ())) (fun z => bif decide (z.snd.fst.fst.Kind = 1) then bif betw z.snd.fst.fst.Rekey.Epoch 1 200 then Option.bind (lfp g_wire_Good_r2 ((z.snd.fst.fst.Rekey.Leaves, 64, (), z.snd.fst.fst.Rekey.Leaves, (↑(List.length z.snd.fst.fst.Rekey.Leaves) : Int), 0, ()), (z.snd.fst.fst, z.snd.fst.fst.Rekey, ()), ())) fun z => Sum.elim (fun x => bif x.fst.fst then Option.bind (lfp g_wire_Good_r2 ((x.snd.fst.snd.fst.Joins, 64, (), x.snd.fst.snd.fst.Joins, (↑(List.length x.snd.fst.snd.fst.Joins) : Int), 0, ()), (x.snd.fst.fst, x.snd.fst.snd.fst, ()), ())) fun z => Sum.elim (fun x => bif x.fst.fst then Option.bind (lfp g_wire_Good_r4 ((x.snd.fst.snd.fst.Items, 1536, (), x.snd.fst.snd.fst.Items, (↑(List.length x.snd.fst.snd.fst.Items) : Int), 0, ()), (x.snd.fst.fst, x.snd.fst.snd.fst, ()), ())) fun z => Sum.elim (fun x => some (x.fst.fst, ())) (fun z => some (decide ((↑(List.length z.fst.fst) : Int) ≤ z.fst.snd.fst), ())) z else some (false, ())) (fun z => bif decide ((↑(List.length z.fst.fst) : Int) ≤ z.fst.snd.fst) then Option.bind (lfp g_wire_Good_r4 ((z.snd.fst.snd.fst.Items, 1536, (), z.snd.fst.snd.fst.Items, (↑(List.length z.snd.fst.snd.fst.Items) : Int), 0, ()), (z.snd.fst.fst, z.snd.fst.snd.fst, ()), ())) fun z => Sum.elim (fun x => some (x.fst.fst, ())) (fun z => some (decide ((↑(List.length z.fst.fst) : Int) ≤ z.fst.snd.fst), ())) z else some (false, ())) z else some (false, ())) (fun z => bif decide ((↑(List.length z.fst.fst) : Int) ≤ z.fst.snd.fst) then Option.bind (lfp g_wire_Good_r2 ((z.snd.fst.snd.fst.Joins, 64, (), z.snd.fst.snd.fst.Joins, (↑(List.length z.snd.fst.snd.fst.Joins) : Int), 0, ()), (z.snd.fst.fst, z.snd.fst.snd.fst, ()), ())) fun z => Sum.elim (fun x => bif x.fst.fst then Option.bind (lfp g_wire_Good_r4 ((x.snd.fst.snd.fst.Items, 1536, (), x.snd.fst.snd.fst.Items, (↑(List.length x.snd.fst.snd.fst.Items) : Int), 0, ()), (x.snd.fst.fst, x.snd.fst.snd.fst, ()), ())) fun z => Sum.elim (fun x => some (x.fst.fst, ())) (fun z => some (decide ((↑(List.length z.fst.fst) : Int) ≤ z.fst.snd.fst), ())) z else some (false, ())) (fun z => bif decide ((↑(List.length z.fst.fst) : Int) ≤ z.fst.snd.fst) then Option.bind (lfp g_wire_Good_r4 ((z.snd.fst.snd.fst.Items, 1536, (), z.snd.fst.snd.fst.Items, (↑(List.length z.snd.fst.snd.fst.Items) : Int), 0, ()), (z.snd.fst.fst, z.snd.fst.snd.fst, ()), ())) fun z => Sum.elim (fun x => some (x.fst.fst, ())) (fun z => some (decide ((↑(List.length z.fst.fst) : Int) ≤ z.fst.snd.fst), ())) z else some (false, ())) z else some (false, ())) z else some (false, ()) else bif decide (z.snd.fst.fst.Kind = 2) then bif goodSeat (Seat.mk z.snd.fst.fst.Request.Who 0) then some (betw z.snd.fst.fst.Request.Epoch 1 200, ()) else some (false, ()) else bif decide (z.snd.fst.fst.Kind = 3) then bif goodSeat (Seat.mk z.snd.fst.fst.Reply.Who z.snd.fst.fst.Reply.Slot) then bif betw z.snd.fst.fst.Reply.Epoch 1 200 then Option.bind (lfp g_wire_Good_r9 (((), 3, (), (), 3, 0, ()), (z.snd.fst.fst, z.snd.fst.fst.Reply, ()), ())) fun z => Sum.elim (fun x => some (x.fst.fst, ())) (fun z => some (decide (3 ≤ z.fst.snd.fst), ())) z else some (false, ()) else some (false, ()) else bif betw z.snd.fst.fst.Sealed.Epoch 1 200 then bif good z.snd.fst.fst.Sealed.Under then some (decide ((↑(ByteArray.size z.snd.fst.fst.Sealed.Text) : Int) ≤ 64), ()) else some (false, ()) else some (false, ())) z
/-- coterie/coterieref14.epoch -/
def g_ref14_epoch : Int × Unit → Option (Bool × Unit)
  | (a, _) => bif decide (1 ≤ a) then some (decide (a ≤ 200), ()) else some (false, ())
/-- coterie/coterieref14.GoodSealed -/
def g_ref14_GoodSealed : Sealed × Unit → Option (Bool × Unit)
  | (a, _) => bif betw a.Epoch 1 200 then bif good a.Under then some (decide ((↑(ByteArray.size a.Text) : Int) ≤ 64), ()) else some (false, ()) else some (false, ())
/-- coterie/data.Seal -/
def g_data_Seal : Member × ByteArray × Unit → Option (Sealed × Int × Unit)
  | (a, b, _) => bif !decide ((group a).snd = 0) then some (Sealed.mk 0 (St.zero St.key) (bytesOf []), (group a).snd, ()) else bif decide (64 < (↑(ByteArray.size b) : Int)) then some (Sealed.mk 0 (St.zero St.key) (bytesOf []), 25, ()) else some (Sealed.mk a.Epoch (group a).fst b, 0, ())
/-- coterie/data.Open -/
def g_data_Open : Member × Sealed × Unit → Option (ByteArray × Int × Unit)
  | (a, b, _) => bif !decide ((group a).snd = 0) then some (bytesOf [], (group a).snd, ()) else bif !goodMsg (Message.mk 4 (St.zero St.rekey) (St.zero St.request) (St.zero St.reply) b) then some (bytesOf [], 13, ()) else bif decide (cmpI b.Epoch a.Epoch = -1) then some (bytesOf [], 21, ()) else bif decide (cmpI b.Epoch a.Epoch = 1) then some (bytesOf [], 32, ()) else bif !decide (b.Under = (group a).fst) then some (bytesOf [], 5, ()) else some (b.Text, 0, ())
/-- coterie/coterieref17.Seal -/
def g_ref17_Seal : Member × ByteArray × Unit → Option (Sealed × Int × Unit)
  | (a, b, _) => bif !decide ((group a).snd = 0) then some (Sealed.mk 0 (St.zero St.key) (bytesOf []), (group a).snd, ()) else bif decide (64 < (↑(ByteArray.size b) : Int)) then some (Sealed.mk 0 (St.zero St.key) (bytesOf []), 25, ()) else some (Sealed.mk a.Epoch (group a).fst b, 0, ())
/-- coterie/coterieref17.Open -/
def g_ref17_Open : Member × Sealed × Unit → Option (ByteArray × Int × Unit)
  | (a, b, _) => bif !decide ((group a).snd = 0) then some (bytesOf [], (group a).snd, ()) else bif !goodSealed b then some (bytesOf [], 13, ()) else bif decide (b.Epoch < a.Epoch) then some (bytesOf [], 21, ()) else bif decide (a.Epoch < b.Epoch) then some (bytesOf [], 32, ()) else bif !decide (b.Under = (group a).fst) then some (bytesOf [], 5, ()) else some (b.Text, 0, ())
/-- coterie/coterielaw17.lives -/
def g_law17_lives : Unit → Option (Bool × Unit)
  | _ => some (true, ())
/-- coterie/coterielaw17.DataSeals -/
def g_law17_DataSeals : Member × ByteArray × Unit → Option (Bool × Unit)
  | (a, b, _) => bif decide ((sealM a b).fst = (sealM a b).fst) then some (decide ((sealM a b).snd = (sealM a b).snd), ()) else some (false, ())
/-- coterie/coterielaw17.DataOpens -/
def g_law17_DataOpens : Member × Sealed × Unit → Option (Bool × Unit)
  | (a, b, _) => bif decide ((openM a b).fst = (openM a b).fst) then some (decide ((openM a b).snd = (openM a b).snd), ()) else some (false, ())
def g_law17_DataInStep_r1 : (ByteArray × Unit × Unit × Int × Unit) × (Tree × Sealed × Unit) × Unit → Option (((ByteArray × Unit × Unit × Int × Unit) × (Tree × Sealed × Unit) × Unit) ⊕ ((Bool × Unit) × Unit × Unit ⊕ Unit × Unit × Unit))
  | ((a, _, _, b, _), (c, d, _), _) => bif decide (b < 64) then bif decide (0 ≤ b) && decide (b < 64) then bif decide ((Arr.get c.Roster b).Base = 0) then some (Sum.inl ((a, (), (), IntKind.wrap IntKind.i64 (b + 1), ()), (c, d, ()), ())) else bif decide (0 ≤ b) && decide (b < 64) then bif !decide ((stand c (Arr.get c.Roster b).Who).snd = 0) then some (Sum.inr (Sum.inl ((false, ()), (), ()))) else bif !decide ((openM (stand c (Arr.get c.Roster b).Who).fst d).snd = 0) then some (Sum.inr (Sum.inl ((false, ()), (), ()))) else bif !decide ((openM (stand c (Arr.get c.Roster b).Who).fst d).fst = a) then some (Sum.inr (Sum.inl ((false, ()), (), ()))) else bif !decide ((openM (Member.mk (stand c (Arr.get c.Roster b).Who).fst.Who (stand c (Arr.get c.Roster b).Who).fst.Slot (stand c (Arr.get c.Roster b).Who).fst.Epoch (stand c (Arr.get c.Roster b).Who).fst.Leaf (Vector.replicate 3 (St.zero St.key)) false (stand c (Arr.get c.Roster b).Who).fst.Out (stand c (Arr.get c.Roster b).Who).fst.Behind) d).snd = 22) then some (Sum.inr (Sum.inl ((false, ()), (), ()))) else bif !decide ((openM (Member.mk (stand c (Arr.get c.Roster b).Who).fst.Who (stand c (Arr.get c.Roster b).Who).fst.Slot (stand c (Arr.get c.Roster b).Who).fst.Epoch (stand c (Arr.get c.Roster b).Who).fst.Leaf (Vector.replicate 3 (St.zero St.key)) false (stand c (Arr.get c.Roster b).Who).fst.Out (stand c (Arr.get c.Roster b).Who).fst.Behind) d).fst = bytesOf []) then some (Sum.inr (Sum.inl ((false, ()), (), ()))) else some (Sum.inl ((a, (), (), IntKind.wrap IntKind.i64 (b + 1), ()), (c, d, ()), ())) else none else none else some (Sum.inr (Sum.inr ((), (), ())))
/-- coterie/coterielaw17.DataInStep -/
def g_law17_DataInStep : Tree × Int × ByteArray × Unit → Option (Bool × Unit)
  | (a, b, c, _) => bif !decide ((stand a b).snd = 0) then some (true, ()) else bif decide (64 < (↑(ByteArray.size c) : Int)) then bif decide ((sealM (stand a b).fst c).snd = 25) then some (decide ((sealM (stand a b).fst c).fst = Sealed.mk 0 (St.zero St.key) (bytesOf [])), ()) else some (false, ()) else bif !decide ((sealM (stand a b).fst c).snd = 0) then some (false, ()) else bif !decide ((sealM (stand a b).fst c).fst.Text = c) then some (false, ()) else bif !decide ((sealM (stand a b).fst c).fst.Epoch = a.Epoch) then some (false, ()) else bif !decide ((sealM (stand a b).fst c).fst.Under = Arr.get a.Keys 0) then some (false, ()) else Option.bind (lfp g_law17_DataInStep_r1 ((c, (), (), 0, ()), (a, (sealM (stand a b).fst c).fst, ()), ())) fun z => Sum.elim (fun x => some (x.fst.fst, ())) (fun _ => some (true, ())) z
end Go.Co.N
end
end

section
namespace Go.Co.N
open Go Go.Co

/-- What is in a box, for who has k. -/
def openB (b : Box) (k : Key) : Key × Int :=
  bif goodBox b && good k then bif gives k b.Under then (b.Load, 0) else (⟨0, 0⟩, 5) else (⟨0, 0⟩, 3)
abbrev c_key_Open : Con := ⟨[.st .box, .st .key], [.st .key, .i], fun x => some ((openB x.1 x.2.1).1, (openB x.1 x.2.1).2, ())⟩
/-- The first item for a node, from that one. -/
def firstB (r : Rekey) (v fr : Int) : Option Item := r.Items.find? fun i => decide (i.Node = v) && decide (i.From = fr)
def aboveM (s : Int) : Int := (word (fun v => !decide (bw .and .u64 (mask v) s = 0)) 21 : Nat)
abbrev c_shape_Above : Con := ⟨[.int .u64], [.int .u32], fun x => some (aboveM x.1, ())⟩
abbrev c_plan_Replaced : Con := ⟨[.list (.st .seat)], [.int .u32], fun x => some (replaced x.1, ())⟩
abbrev c_member_Restart : Con := ⟨[.st .member], [.st .member], fun x => some ({ x.1 with Behind := 0 }, ())⟩
def seated (c : Card) : Member × Int := bif goodCard c then (⟨c.Who, c.Slot, c.Epoch, c.Leaf, zeroP, false, false, 0⟩, 0) else (zeroM, 30)
abbrev c_member_Seated : Con := ⟨[.st .card], [.st .member, .i], fun x => some ((seated x.1).1, (seated x.1).2, ())⟩
abbrev c_ref15_Seated : Con := ⟨[.st .card], [.st .member, .i], fun x => some ((seated x.1).1, (seated x.1).2, ())⟩
/-- What the first item for a node, from that one, gives to who has k. -/
def openI (r : Rekey) (v fr : Int) (k : Key) : Key × Int := match firstB r v fr with
  | some i => openB i.Box k
  | none => (⟨0, 0⟩, 23)
abbrev c_member_find : Con := ⟨[.st .rekey, .i, .i], [.st .box, .bool], fun x => some ((firstB x.1 x.2.1 x.2.2.1).elim (St.zero .box) Item.Box, (firstB x.1 x.2.1 x.2.2.1).isSome, ())⟩
abbrev c_member_open : Con := ⟨[.st .rekey, .i, .i, .st .key], [.st .key, .i], fun x => some ((openI x.1 x.2.1 x.2.2.1 x.2.2.2.1).1, (openI x.1 x.2.1 x.2.2.1 x.2.2.2.1).2, ())⟩
abbrev c_key_Gives : Con := ⟨[.st .key, .st .key], [.bool], fun x => some (gives x.1 x.2.1, ())⟩
/-- Up the path, node by node: the path then, and the errno. -/
def upP (step : Path → Int → Int → Key → Key × Int) (s : Int) : Nat → Nat → Path → Int → Key → Path × Int
  | 0, _, p, _, _ => (p, 0)
  | d + 1, i, p, b, k =>
    bif decide ((step p (i : Int) b k).2 = 0) then upP step s d (i + 1) (Arr.put p (i : Int) (step p (i : Int) b k).1) (Arr.get (pathG s) (i : Int)) (step p (i : Int) b k).1
    else (p, (step p (i : Int) b k).2)
def enterStep (m : Member) (r : Rekey) (_ : Path) (i b : Int) (k : Key) : Key × Int :=
  bif decide ((openI r (Arr.get (pathG m.Slot) i) (leaf m.Slot) m.Leaf).2 = 23) then openI r (Arr.get (pathG m.Slot) i) b k else openI r (Arr.get (pathG m.Slot) i) (leaf m.Slot) m.Leaf
def enterM (m : Member) (r : Rekey) : Member × Int :=
  let z := upP (enterStep m r) m.Slot 3 0 m.Path (leaf m.Slot) m.Leaf
  ({ m with Path := z.1, Has := bif decide (z.2 = 0) then true else m.Has }, z.2)
def followStep (m : Member) (r : Rekey) (p : Path) (i b : Int) (k : Key) : Key × Int :=
  bif inB (replaced r.Leaves) (Arr.get (pathG m.Slot) i) then openI r (Arr.get (pathG m.Slot) i) b k else ahead (Arr.get p i) 1
def followM (m : Member) (r : Rekey) : Member × Int :=
  bif decide ((ahead m.Leaf 1).2 = 0) then
    let z := upP (followStep m r) m.Slot 3 0 m.Path (leaf m.Slot) (ahead m.Leaf 1).1
    ({ m with Leaf := (ahead m.Leaf 1).1, Epoch := r.Epoch, Path := z.1 }, z.2)
  else (m, (ahead m.Leaf 1).2)
def nextM (m : Member) (r : Rekey) : Member × Int :=
  bif decide (r.Epoch = m.Epoch) then
    (bif r.Joins.any (fun s => decide ((⟨m.Who, m.Slot⟩ : Seat) = s)) then enterM m r else (m, 22))
  else bif r.Leaves.any (fun s => decide (s.Who = m.Who)) then (outM m.Who r.Epoch, 0) else followM m r
abbrev c_member_enter : Con := ⟨[.st .member, .st .rekey], [.st .member, .i], fun x => some ((enterM x.1 x.2.1).1, (enterM x.1 x.2.1).2, ())⟩
abbrev c_member_follow : Con := ⟨[.st .member, .st .rekey], [.st .member, .i], fun x => some ((followM x.1 x.2.1).1, (followM x.1 x.2.1).2, ())⟩
abbrev c_member_next : Con := ⟨[.st .member, .st .rekey], [.st .member, .i], fun x => some ((nextM x.1 x.2.1).1, (nextM x.1 x.2.1).2, ())⟩
def calm (m : Member) : Member := bif decide (m.Behind ≤ m.Epoch) then { m with Behind := 0 } else m
def applyM (m : Member) (r : Rekey) : Member × Int :=
  bif decide (kind m ≤ 0) then (m, 30)
  else bif decide (kind m = 1) then (m, 20)
  else bif !goodRekey r then (m, 13)
  else bif decide (r.Epoch < m.Epoch) || (decide (kind m = 3) && decide (r.Epoch = m.Epoch)) then (m, 21)
  else bif decide (m.Epoch + 1 < r.Epoch) || (decide (kind m = 2) && decide (m.Epoch < r.Epoch)) then ({ m with Behind := max m.Behind r.Epoch }, 22)
  else bif decide ((nextM m r).2 = 0) then (calm (nextM m r).1, 0) else (m, (nextM m r).2)
abbrev c_member_Apply : Con := ⟨[.st .member, .st .rekey], [.st .member, .i], fun x => some ((applyM x.1 x.2.1).1, (applyM x.1 x.2.1).2, ())⟩

/-! ### The laws of chapter 15 -/
/-- The tree behind a first step with which 1, 2 and 3 join. -/
def threeT : Tree := (nextR startT ⟨[], [1, 2, 3]⟩).1
abbrev c_law15_three : Con := ⟨[], [.st .tree], fun _ => some (threeT, ())⟩
abbrev c_law15_lives : Con := c_True []
abbrev c_law15_MemberKinds : Con := c_True [.st .member, .st .card]
abbrev c_law15_MemberKeeps : Con := c_True [.st .member, .st .rekey]
abbrev c_law15_MemberOneWay : Con := c_True [.st .member, .st .rekey]
abbrev c_law15_MemberInStep : Con := c_True [.st .tree, .st .batch]
abbrev c_law15_MemberRuns : Con := c_True [.st .tree, .list (.st .batch), .list .i]
end Go.Co.N
end

section
set_option maxRecDepth 100000
noncomputable section
namespace Go.Co.N
open Go Go.Co
def g_shape_Above_r1 : (Int × Int × Int × Unit) × Unit × Unit → Option (((Int × Int × Int × Unit) × Unit × Unit) ⊕ ((Int × Unit) × Unit × Unit))
  | ((a, b, c, _), _, _) => bif decide (c < 21) then bif !decide (bw BinOp.and IntKind.u64 (mask c) a = 0) then some (Sum.inl ((a, bw BinOp.or IntKind.u32 b (shlI IntKind.u32 1 (IntKind.wrap IntKind.u64 c)), IntKind.wrap IntKind.i64 (c + 1), ()), (), ())) else some (Sum.inl ((a, b, IntKind.wrap IntKind.i64 (c + 1), ()), (), ())) else some (Sum.inr ((b, ()), (), ()))
/-- coterie/shape.Above -/
def g_shape_Above : Int × Unit → Option (Int × Unit)
  | (a, _) => Option.bind (lfp g_shape_Above_r1 ((a, 0, 0, ()), (), ())) fun z => some (z.fst.fst, ())
/-- coterie/key.Gives -/
def g_key_Gives : Key × Key × Unit → Option (Bool × Unit)
  | (a, b, _) => bif good a then bif good b then bif decide (a.Base = b.Base) then some (decide (a.Step ≤ b.Step), ()) else some (false, ()) else some (false, ()) else some (false, ())
/-- coterie/key.Open -/
def g_key_Open : Box × Key × Unit → Option (Key × Int × Unit)
  | (a, b, _) => bif !good a.Under then some (Key.mk 0 0, 3, ()) else bif !good a.Load then some (Key.mk 0 0, 3, ()) else bif !good b then some (Key.mk 0 0, 3, ()) else bif !gives b a.Under then some (Key.mk 0 0, 5, ()) else some (a.Load, 0, ())
def g_plan_Replaced_r1 : (Int × List Seat × Int × Int × Unit) × Unit × Unit → Option (((Int × List Seat × Int × Int × Unit) × Unit × Unit) ⊕ ((Int × Unit) × Unit × Unit))
  | ((a, b, c, d, _), _, _) => bif decide (d < c) then bif decide (0 ≤ d) && decide (d < (↑(List.length b) : Int)) then some (Sum.inl ((bw BinOp.or IntKind.u64 a (mask (leaf (lat b d).Slot)), b, c, IntKind.wrap IntKind.i64 (d + 1), ()), (), ())) else none else some (Sum.inr ((a, ()), (), ()))
/-- coterie/plan.Replaced -/
def g_plan_Replaced : List Seat × Unit → Option (Int × Unit)
  | (a, _) => Option.bind (lfp g_plan_Replaced_r1 ((0, a, (↑(List.length a) : Int), 0, ()), (), ())) fun z => some (aboveM z.fst.fst, ())
/-- coterie/member.Restart -/
def g_member_Restart : Member × Unit → Option (Member × Unit)
  | (a, _) => some (Member.mk a.Who a.Slot a.Epoch a.Leaf a.Path a.Has a.Out 0, ())
/-- coterie/member.Seated -/
def g_member_Seated : Card × Unit → Option (Member × Int × Unit)
  | (a, _) => bif !goodCard a then some (Member.mk 0 0 0 (St.zero St.key) (Vector.replicate 3 (St.zero St.key)) false false 0, 30, ()) else some (Member.mk a.Who a.Slot a.Epoch a.Leaf (Vector.replicate 3 (St.zero St.key)) false false 0, 0, ())
/-- coterie/coterieref15.Seated -/
def g_ref15_Seated : Card × Unit → Option (Member × Int × Unit)
  | (a, _) => bif !goodCard a then some (Member.mk 0 0 0 (St.zero St.key) (Vector.replicate 3 (St.zero St.key)) false false 0, 30, ()) else some (Member.mk a.Who a.Slot a.Epoch a.Leaf (Vector.replicate 3 (St.zero St.key)) false false 0, 0, ())
def g_member_find_r1 : (List Co.Item × Unit × Int × Int × Unit) × (Rekey × Int × Int × Box × Unit) × Unit → Option (((List Co.Item × Unit × Int × Int × Unit) × (Rekey × Int × Int × Box × Unit) × Unit) ⊕ ((Int × Unit) × (Rekey × Int × Int × Box × Unit) × Unit ⊕ Unit × (Rekey × Int × Int × Box × Unit) × Unit))
  | ((a, _, b, c, _), (d, e, f, g, _), _) => bif decide (c < b) then bif decide (0 ≤ c) && decide (c < (↑(List.length a) : Int)) then bif decide ((lat a c).Node = e) then bif decide ((lat a c).From = f) then some (Sum.inr (Sum.inl ((c, ()), (d, e, f, g, ()), ()))) else some (Sum.inl ((a, (), b, IntKind.wrap IntKind.i64 (c + 1), ()), (d, e, f, g, ()), ())) else some (Sum.inl ((a, (), b, IntKind.wrap IntKind.i64 (c + 1), ()), (d, e, f, g, ()), ())) else none else some (Sum.inr (Sum.inr ((), (d, e, f, g, ()), ())))
/-- coterie/member.find -/
def g_member_find : Rekey × Int × Int × Unit → Option (Box × Bool × Unit)
  | (a, b, c, _) => Option.bind (lfp g_member_find_r1 ((a.Items, (), (↑(List.length a.Items) : Int), 0, ()), (a, b, c, St.zero St.box, ()), ())) fun z => Sum.elim (fun x => bif decide (x.fst.fst < 0) then some (Box.mk (St.zero St.key) (St.zero St.key), false, ()) else bif decide (0 ≤ x.fst.fst) && decide (x.fst.fst < (↑(List.length x.snd.fst.fst.Items) : Int)) then some ((lat x.snd.fst.fst.Items x.fst.fst).Box, true, ()) else none) (fun _ => some (Box.mk (St.zero St.key) (St.zero St.key), false, ())) z
/-- coterie/member.open -/
def g_member_open : Rekey × Int × Int × Key × Unit → Option (Key × Int × Unit)
  | (a, b, c, d, _) => bif !Option.isSome (firstB a b c) then some (Key.mk 0 0, 23, ()) else some ((openB (Option.rec (St.zero St.box) (fun val => val.Box) (firstB a b c)) d).fst, (openB (Option.rec (St.zero St.box) (fun val => val.Box) (firstB a b c)) d).snd, ())
def g_member_enter_r1 : (Unit × Unit × Unit × Int × Int × Unit × Vector Int 3 × Int × Unit) × (Member × Rekey × Member × Key × Unit) × Unit → Option (((Unit × Unit × Unit × Int × Int × Unit × Vector Int 3 × Int × Unit) × (Member × Rekey × Member × Key × Unit) × Unit) ⊕ ((Unit × Int × Unit) × (Member × Unit) × Unit ⊕ (Unit × Unit × Unit) × (Member × Member × Unit) × Unit))
  | ((_, _, _, a, b, _, c, d, _), (e, f, g, h, _), _) => bif decide (d < 3) then bif decide (0 ≤ d) && decide (d < 3) then bif decide ((openI f (Arr.get c d) a e.Leaf).snd = 23) then bif !decide ((openI f (Arr.get c d) b h).snd = 0) then some (Sum.inr (Sum.inl (((), (openI f (Arr.get c d) b h).snd, ()), (e, ()), ()))) else bif decide (0 ≤ d) && decide (d < 3) then some (Sum.inl (((), (), (), a, Arr.get c d, (), c, IntKind.wrap IntKind.i64 (d + 1), ()), (Member.mk e.Who e.Slot e.Epoch e.Leaf (Arr.put e.Path d (openI f (Arr.get c d) b h).fst) e.Has e.Out e.Behind, f, g, (openI f (Arr.get c d) b h).fst, ()), ())) else none else bif !decide ((openI f (Arr.get c d) a e.Leaf).snd = 0) then some (Sum.inr (Sum.inl (((), (openI f (Arr.get c d) a e.Leaf).snd, ()), (e, ()), ()))) else bif decide (0 ≤ d) && decide (d < 3) then some (Sum.inl (((), (), (), a, Arr.get c d, (), c, IntKind.wrap IntKind.i64 (d + 1), ()), (Member.mk e.Who e.Slot e.Epoch e.Leaf (Arr.put e.Path d (openI f (Arr.get c d) a e.Leaf).fst) e.Has e.Out e.Behind, f, g, (openI f (Arr.get c d) a e.Leaf).fst, ()), ())) else none else none else some (Sum.inr (Sum.inr (((), (), ()), (e, g, ()), ())))
/-- coterie/member.enter -/
def g_member_enter : Member × Rekey × Unit → Option (Member × Int × Unit)
  | (a, b, _) => Option.bind (lfp g_member_enter_r1 (((), (), (), leaf a.Slot, leaf a.Slot, (), bif decide (0 ≤ leaf a.Slot) then pathN a.Slot else zero3, 0, ()), (a, b, St.zero St.member, a.Leaf, ()), ())) fun z => Sum.elim (fun x => some (x.snd.fst.fst, x.fst.snd.fst, ())) (fun z => some (Member.mk z.snd.fst.fst.Who z.snd.fst.fst.Slot z.snd.fst.fst.Epoch z.snd.fst.fst.Leaf z.snd.fst.fst.Path true z.snd.fst.fst.Out z.snd.fst.fst.Behind, 0, ())) z
def g_member_follow_r1 : (Unit × Unit × Unit × Int × Unit × Int × Vector Int 3 × Int × Unit) × (Member × Rekey × Member × Key × Unit) × Unit → Option (((Unit × Unit × Unit × Int × Unit × Int × Vector Int 3 × Int × Unit) × (Member × Rekey × Member × Key × Unit) × Unit) ⊕ ((Unit × Int × Unit) × (Member × Unit) × Unit ⊕ (Unit × Unit × Unit) × (Member × Member × Unit) × Unit))
  | ((_, _, _, a, _, b, c, d, _), (e, f, g, h, _), _) => bif decide (d < 3) then bif decide (0 ≤ d) && decide (d < 3) then bif decide (bw BinOp.and IntKind.u32 (shrI IntKind.u32 a (IntKind.wrap IntKind.u64 (Arr.get c d))) 1 = 1) then bif !decide ((openI f (Arr.get c d) b h).snd = 0) then some (Sum.inr (Sum.inl (((), (openI f (Arr.get c d) b h).snd, ()), (e, ()), ()))) else bif decide (0 ≤ d) && decide (d < 3) then some (Sum.inl (((), (), (), a, (), Arr.get c d, c, IntKind.wrap IntKind.i64 (d + 1), ()), (Member.mk e.Who e.Slot e.Epoch e.Leaf (Arr.put e.Path d (openI f (Arr.get c d) b h).fst) e.Has e.Out e.Behind, f, g, (openI f (Arr.get c d) b h).fst, ()), ())) else none else bif decide (0 ≤ d) && decide (d < 3) then bif !decide ((N.ahead (Arr.get e.Path d) 1).snd = 0) then some (Sum.inr (Sum.inl (((), (N.ahead (Arr.get e.Path d) 1).snd, ()), (e, ()), ()))) else bif decide (0 ≤ d) && decide (d < 3) then some (Sum.inl (((), (), (), a, (), Arr.get c d, c, IntKind.wrap IntKind.i64 (d + 1), ()), (Member.mk e.Who e.Slot e.Epoch e.Leaf (Arr.put e.Path d (N.ahead (Arr.get e.Path d) 1).fst) e.Has e.Out e.Behind, f, g, (N.ahead (Arr.get e.Path d) 1).fst, ()), ())) else none else none else none else some (Sum.inr (Sum.inr (((), (), ()), (e, g, ()), ())))
/-- coterie/member.follow -/
def g_member_follow : Member × Rekey × Unit → Option (Member × Int × Unit)
  | (a, b, _) => bif !decide ((N.ahead a.Leaf 1).snd = 0) then some (a, (N.ahead a.Leaf 1).snd, ()) else Option.bind (lfp g_member_follow_r1 (((), (), (), replaced b.Leaves, (), leaf a.Slot, bif decide (0 ≤ leaf a.Slot) then pathN a.Slot else zero3, 0, ()), (Member.mk a.Who a.Slot b.Epoch (N.ahead a.Leaf 1).fst a.Path a.Has a.Out a.Behind, b, St.zero St.member, (N.ahead a.Leaf 1).fst, ()), ())) fun z => Sum.elim (fun x => some (x.snd.fst.fst, x.fst.snd.fst, ())) (fun z => some (z.snd.fst.fst, 0, ())) z
def g_member_next_r1 : (List Seat × Unit × Int × Int × Unit) × (Member × Rekey × Member × Seat × Seat × Unit) × Unit → Option (((List Seat × Unit × Int × Int × Unit) × (Member × Rekey × Member × Seat × Seat × Unit) × Unit) ⊕ ((Int × Unit) × (Member × Rekey × Member × Seat × Unit) × Unit ⊕ Unit × (Member × Rekey × Member × Seat × Unit) × Unit))
  | ((a, _, b, c, _), (d, e, f, g, h, _), _) => bif decide (c < b) then bif decide (0 ≤ c) && decide (c < (↑(List.length a) : Int)) then bif decide (h = lat a c) then some (Sum.inr (Sum.inl ((c, ()), (d, e, f, g, ()), ()))) else some (Sum.inl ((a, (), b, IntKind.wrap IntKind.i64 (c + 1), ()), (d, e, f, g, h, ()), ())) else none else some (Sum.inr (Sum.inr ((), (d, e, f, g, ()), ())))
def g_member_next_r2 : (List Seat × Unit × Int × Int × Unit) × (Member × Rekey × Member × Unit) × Unit → Option (((List Seat × Unit × Int × Int × Unit) × (Member × Rekey × Member × Unit) × Unit) ⊕ ((Int × Unit) × (Member × Rekey × Member × Unit) × Unit ⊕ Unit × (Member × Rekey × Member × Unit) × Unit))
  | ((a, _, b, c, _), (d, e, f, _), _) => bif decide (c < b) then bif decide (0 ≤ c) && decide (c < (↑(List.length a) : Int)) then bif decide ((lat a c).Who = d.Who) then some (Sum.inr (Sum.inl ((c, ()), (d, e, f, ()), ()))) else some (Sum.inl ((a, (), b, IntKind.wrap IntKind.i64 (c + 1), ()), (d, e, f, ()), ())) else none else some (Sum.inr (Sum.inr ((), (d, e, f, ()), ())))
/-- coterie/member.next -/
def g_member_next : Member × Rekey × Unit → Option (Member × Int × Unit)
  | (a, b, _) => bif decide (b.Epoch = a.Epoch) then Option.bind (lfp g_member_next_r1 ((b.Joins, (), (↑(List.length b.Joins) : Int), 0, ()), (a, b, St.zero St.member, Seat.mk a.Who a.Slot, Seat.mk a.Who a.Slot, ()), ())) fun z => Sum.elim (fun x => bif !decide (0 ≤ x.fst.fst) then some (x.snd.fst.fst, 22, ()) else bif decide (x.snd.fst.snd.fst.Epoch = x.snd.fst.fst.Epoch) then some ((enterM x.snd.fst.fst x.snd.fst.snd.fst).fst, (enterM x.snd.fst.fst x.snd.fst.snd.fst).snd, ()) else Option.bind (lfp g_member_next_r2 ((x.snd.fst.snd.fst.Leaves, (), (↑(List.length x.snd.fst.snd.fst.Leaves) : Int), 0, ()), (x.snd.fst.fst, x.snd.fst.snd.fst, x.snd.fst.snd.snd.fst, ()), ())) fun z => Sum.elim (fun x => bif decide (0 ≤ x.fst.fst) then some (Member.mk x.snd.fst.fst.Who 0 x.snd.fst.snd.fst.Epoch (St.zero St.key) (Vector.replicate 3 (St.zero St.key)) false true 0, 0, ()) else some ((followM x.snd.fst.fst x.snd.fst.snd.fst).fst, (followM x.snd.fst.fst x.snd.fst.snd.fst).snd, ())) (fun z => some ((followM z.snd.fst.fst z.snd.fst.snd.fst).fst, (followM z.snd.fst.fst z.snd.fst.snd.fst).snd, ())) z) (fun z => some (z.snd.fst.fst, 22, ())) z else bif decide (b.Epoch = a.Epoch) then some ((enterM a b).fst, (enterM a b).snd, ()) else Option.bind (lfp g_member_next_r2 ((b.Leaves, (), (↑(List.length b.Leaves) : Int), 0, ()), (a, b, St.zero St.member, ()), ())) fun z => Sum.elim (fun x => bif decide (0 ≤ x.fst.fst) then some (Member.mk x.snd.fst.fst.Who 0 x.snd.fst.snd.fst.Epoch (St.zero St.key) (Vector.replicate 3 (St.zero St.key)) false true 0, 0, ()) else some ((followM x.snd.fst.fst x.snd.fst.snd.fst).fst, (followM x.snd.fst.fst x.snd.fst.snd.fst).snd, ())) (fun z => some ((followM z.snd.fst.fst z.snd.fst.snd.fst).fst, (followM z.snd.fst.fst z.snd.fst.snd.fst).snd, ())) z
/-- coterie/member.Apply -/
def g_member_Apply : Member × Rekey × Unit → Option (Member × Int × Unit)
  | (a, b, _) => bif decide (kind a ≤ 0) then some (a, 30, ()) else bif decide (kind a = 1) then some (a, 20, ()) else bif !goodMsg (Message.mk 1 b (St.zero St.request) (St.zero St.reply) (St.zero St.sealed)) then some (a, 13, ()) else bif decide (b.Epoch < a.Epoch) then some (a, 21, ()) else bif decide (kind a = 3) then bif decide (b.Epoch = a.Epoch) then some (a, 21, ()) else bif decide (IntKind.wrap IntKind.i64 (a.Epoch + 1) < b.Epoch) then some (Member.mk a.Who a.Slot a.Epoch a.Leaf a.Path a.Has a.Out (max a.Behind b.Epoch), 22, ()) else bif decide (kind a = 2) then bif decide (a.Epoch < b.Epoch) then some (Member.mk a.Who a.Slot a.Epoch a.Leaf a.Path a.Has a.Out (max a.Behind b.Epoch), 22, ()) else bif !decide ((nextM a b).snd = 0) then some (a, (nextM a b).snd, ()) else bif decide ((nextM a b).fst.Behind ≤ (nextM a b).fst.Epoch) then some (Member.mk (nextM a b).fst.Who (nextM a b).fst.Slot (nextM a b).fst.Epoch (nextM a b).fst.Leaf (nextM a b).fst.Path (nextM a b).fst.Has (nextM a b).fst.Out 0, 0, ()) else some ((nextM a b).fst, 0, ()) else bif !decide ((nextM a b).snd = 0) then some (a, (nextM a b).snd, ()) else bif decide ((nextM a b).fst.Behind ≤ (nextM a b).fst.Epoch) then some (Member.mk (nextM a b).fst.Who (nextM a b).fst.Slot (nextM a b).fst.Epoch (nextM a b).fst.Leaf (nextM a b).fst.Path (nextM a b).fst.Has (nextM a b).fst.Out 0, 0, ()) else some ((nextM a b).fst, 0, ()) else bif decide (IntKind.wrap IntKind.i64 (a.Epoch + 1) < b.Epoch) then some (Member.mk a.Who a.Slot a.Epoch a.Leaf a.Path a.Has a.Out (max a.Behind b.Epoch), 22, ()) else bif decide (kind a = 2) then bif decide (a.Epoch < b.Epoch) then some (Member.mk a.Who a.Slot a.Epoch a.Leaf a.Path a.Has a.Out (max a.Behind b.Epoch), 22, ()) else bif !decide ((nextM a b).snd = 0) then some (a, (nextM a b).snd, ()) else bif decide ((nextM a b).fst.Behind ≤ (nextM a b).fst.Epoch) then some (Member.mk (nextM a b).fst.Who (nextM a b).fst.Slot (nextM a b).fst.Epoch (nextM a b).fst.Leaf (nextM a b).fst.Path (nextM a b).fst.Has (nextM a b).fst.Out 0, 0, ()) else some ((nextM a b).fst, 0, ()) else bif !decide ((nextM a b).snd = 0) then some (a, (nextM a b).snd, ()) else bif decide ((nextM a b).fst.Behind ≤ (nextM a b).fst.Epoch) then some (Member.mk (nextM a b).fst.Who (nextM a b).fst.Slot (nextM a b).fst.Epoch (nextM a b).fst.Leaf (nextM a b).fst.Path (nextM a b).fst.Has (nextM a b).fst.Out 0, 0, ()) else some ((nextM a b).fst, 0, ())
/-- coterie/coterielaw15.three -/
def g_law15_three : Unit → Option (Tree × Unit)
  | _ => some ((nextR startT (Batch.mk [] [1, 2, 3])).fst, ())
/-- coterie/coterielaw15.lives -/
def g_law15_lives : Unit → Option (Bool × Unit)
  | _ => some (true, ())
/-- coterie/coterielaw15.MemberKinds -/
def g_law15_MemberKinds : Member × Card × Unit → Option (Bool × Unit)
  | (a, b, _) => bif !decide (kind a = kind a) then some (false, ()) else bif !decide ((group a).fst = (group a).fst) then some (false, ()) else bif !decide ((group a).snd = (group a).snd) then some (false, ()) else bif !decide ((seated b).fst = (seated b).fst) then some (false, ()) else bif !decide ((seated b).snd = (seated b).snd) then some (false, ()) else bif decide ((seated b).snd = 0) then bif !decide (kind (seated b).fst = 2) then some (false, ()) else some (decide (Member.mk a.Who a.Slot a.Epoch a.Leaf a.Path a.Has a.Out 0 = Member.mk a.Who a.Slot a.Epoch a.Leaf a.Path a.Has a.Out 0), ()) else some (decide (Member.mk a.Who a.Slot a.Epoch a.Leaf a.Path a.Has a.Out 0 = Member.mk a.Who a.Slot a.Epoch a.Leaf a.Path a.Has a.Out 0), ())
/-- coterie/coterielaw15.MemberKeeps -/
def g_law15_MemberKeeps : Member × Rekey × Unit → Option (Bool × Unit)
  | (a, b, _) => bif decide ((applyM a b).snd = 0) then some (!decide ((applyM a b).fst = a), ()) else bif !decide ((applyM a b).snd = 22) then some (decide ((applyM a b).fst = a), ()) else bif decide (Member.mk (applyM a b).fst.Who (applyM a b).fst.Slot (applyM a b).fst.Epoch (applyM a b).fst.Leaf (applyM a b).fst.Path (applyM a b).fst.Has (applyM a b).fst.Out a.Behind = a) then bif decide ((applyM a b).fst.Behind = a.Behind) then some (true, ()) else bif decide ((applyM a b).fst.Behind = b.Epoch) then bif decide (a.Behind < (applyM a b).fst.Behind) then some (decide (a.Epoch < (applyM a b).fst.Behind), ()) else some (false, ()) else some (false, ()) else some (false, ())
/-- coterie/coterielaw15.MemberOneWay -/
def g_law15_MemberOneWay : Member × Rekey × Unit → Option (Bool × Unit)
  | (a, b, _) => bif !decide ((applyM a b).snd = 0) then some (true, ()) else bif decide ((applyM a b).fst.Epoch = a.Epoch) then some (true, ()) else bif (applyM a b).fst.Out then some (true, ()) else bif decide ((applyM a b).fst.Epoch = IntKind.wrap IntKind.i64 (a.Epoch + 1)) then bif decide ((applyM a b).fst.Epoch = b.Epoch) then bif decide ((applyM a b).fst.Leaf = Key.mk a.Leaf.Base (IntKind.wrap IntKind.i64 (a.Leaf.Step + 1))) then bif !gives (applyM a b).fst.Leaf a.Leaf then bif decide ((applyM a b).fst.Who = a.Who) then bif decide ((applyM a b).fst.Slot = a.Slot) then some ((applyM a b).fst.Has, ()) else some (false, ()) else some (false, ()) else some (false, ()) else some (false, ()) else some (false, ()) else some (false, ())
def g_law15_MemberInStep_r1 : (Unit × Unit × Unit × List Seat × Int × Int × Unit) × (Tree × Tree × Rekey × Unit) × Unit → Option (((Unit × Unit × Unit × List Seat × Int × Int × Unit) × (Tree × Tree × Rekey × Unit) × Unit) ⊕ ((Bool × Unit) × Unit × Unit ⊕ (Unit × Unit × Unit × Unit) × (Tree × Tree × Rekey × Unit) × Unit))
  | ((_, _, _, a, b, c, _), (d, e, f, _), _) => bif decide (c < b) then bif decide (0 ≤ c) && decide (c < (↑(List.length a) : Int)) then bif !decide ((applyM (stand d (lat a c).Who).fst f).snd = 0) then some (Sum.inr (Sum.inl ((false, ()), (), ()))) else bif !decide ((applyM (stand d (lat a c).Who).fst f).fst = Member.mk (lat a c).Who 0 e.Epoch (St.zero St.key) (Vector.replicate 3 (St.zero St.key)) false true 0) then some (Sum.inr (Sum.inl ((false, ()), (), ()))) else bif !decide ((applyM (applyM (stand d (lat a c).Who).fst f).fst f).snd = 20) then some (Sum.inr (Sum.inl ((false, ()), (), ()))) else bif !decide ((applyM (applyM (stand d (lat a c).Who).fst f).fst f).fst = (applyM (stand d (lat a c).Who).fst f).fst) then some (Sum.inr (Sum.inl ((false, ()), (), ()))) else some (Sum.inl (((), (), (), a, b, IntKind.wrap IntKind.i64 (c + 1), ()), (d, e, f, ()), ())) else none else some (Sum.inr (Sum.inr (((), (), (), ()), (d, e, f, ()), ())))
def g_law15_MemberInStep_r2 : (Unit × Unit × Unit × Int × Unit) × (Tree × Tree × Rekey × Unit) × Unit → Option (((Unit × Unit × Unit × Int × Unit) × (Tree × Tree × Rekey × Unit) × Unit) ⊕ ((Bool × Unit) × Unit × Unit ⊕ Unit × Unit × Unit))
  | ((_, _, _, a, _), (b, c, d, _), _) => bif decide (a < 64) then bif decide (0 ≤ a) && decide (a < 64) then bif decide ((Arr.get c.Roster a).Base = 0) then some (Sum.inl (((), (), (), IntKind.wrap IntKind.i64 (a + 1), ()), (b, c, d, ()), ())) else bif !decide ((stand b (Arr.get c.Roster a).Who).snd = 0) then bif !decide ((seated (card c (Arr.get c.Roster a).Who).fst).snd = 0) then some (Sum.inr (Sum.inl ((false, ()), (), ()))) else bif !decide ((applyM (seated (card c (Arr.get c.Roster a).Who).fst).fst d).snd = 0) then some (Sum.inr (Sum.inl ((false, ()), (), ()))) else bif !decide ((applyM (seated (card c (Arr.get c.Roster a).Who).fst).fst d).fst = (stand c (Arr.get c.Roster a).Who).fst) then some (Sum.inr (Sum.inl ((false, ()), (), ()))) else bif !decide ((applyM (applyM (seated (card c (Arr.get c.Roster a).Who).fst).fst d).fst d).snd = 21) then some (Sum.inr (Sum.inl ((false, ()), (), ()))) else bif !decide ((applyM (applyM (seated (card c (Arr.get c.Roster a).Who).fst).fst d).fst d).fst = (applyM (seated (card c (Arr.get c.Roster a).Who).fst).fst d).fst) then some (Sum.inr (Sum.inl ((false, ()), (), ()))) else some (Sum.inl (((), (), (), IntKind.wrap IntKind.i64 (a + 1), ()), (b, c, d, ()), ())) else bif !decide ((applyM (stand b (Arr.get c.Roster a).Who).fst d).snd = 0) then some (Sum.inr (Sum.inl ((false, ()), (), ()))) else bif !decide ((applyM (stand b (Arr.get c.Roster a).Who).fst d).fst = (stand c (Arr.get c.Roster a).Who).fst) then some (Sum.inr (Sum.inl ((false, ()), (), ()))) else bif !decide ((applyM (applyM (stand b (Arr.get c.Roster a).Who).fst d).fst d).snd = 21) then some (Sum.inr (Sum.inl ((false, ()), (), ()))) else bif !decide ((applyM (applyM (stand b (Arr.get c.Roster a).Who).fst d).fst d).fst = (applyM (stand b (Arr.get c.Roster a).Who).fst d).fst) then some (Sum.inr (Sum.inl ((false, ()), (), ()))) else some (Sum.inl (((), (), (), IntKind.wrap IntKind.i64 (a + 1), ()), (b, c, d, ()), ())) else none else some (Sum.inr (Sum.inr ((), (), ())))
/-- coterie/coterielaw15.MemberInStep -/
def g_law15_MemberInStep : Tree × Batch × Unit → Option (Bool × Unit)
  | (a, b, _) => bif !decide ((nextR a b).snd.snd = 0) then some (true, ()) else Option.bind (lfp g_law15_MemberInStep_r1 (((), (), (), (nextR a b).snd.fst.Leaves, (↑(List.length (nextR a b).snd.fst.Leaves) : Int), 0, ()), (a, (nextR a b).fst, (nextR a b).snd.fst, ()), ())) fun z => Sum.elim (fun x => some (x.fst.fst, ())) (fun z => Option.bind (lfp g_law15_MemberInStep_r2 (((), (), (), 0, ()), (z.snd.fst.fst, z.snd.fst.snd.fst, z.snd.fst.snd.snd.fst, ()), ())) fun z => Sum.elim (fun x => some (x.fst.fst, ())) (fun _ => some (true, ())) z) z
def g_law15_MemberRuns_r1 : (List Int × Unit × List Tree × List Rekey × List Batch × Int × Int × Unit) × (Tree × Unit) × Unit → Option (((List Int × Unit × List Tree × List Rekey × List Batch × Int × Int × Unit) × (Tree × Unit) × Unit) ⊕ ((List Int × Unit × List Tree × List Rekey × Unit) × (Tree × Unit) × Unit))
  | ((a, _, b, c, d, e, f, _), (g, _), _) => bif decide (f < e) then bif decide (0 ≤ f) && decide (f < (↑(List.length d) : Int)) then bif decide (0 ≤ IntKind.wrap IntKind.i64 ((↑(List.length b) : Int) - 1)) && decide (IntKind.wrap IntKind.i64 ((↑(List.length b) : Int) - 1) < (↑(List.length b) : Int)) then bif decide ((nextR (lat b (IntKind.wrap IntKind.i64 ((↑(List.length b) : Int) - 1))) (lat d f)).snd.snd = 0) then bif decide ((List.length b + 1) * 1888 ≤ 140737488355328) then bif decide ((List.length c + 1) * 80 ≤ 140737488355328) then some (Sum.inl ((a, (), List.append b [(nextR (lat b (IntKind.wrap IntKind.i64 ((↑(List.length b) : Int) - 1))) (lat d f)).fst], List.append c [(nextR (lat b (IntKind.wrap IntKind.i64 ((↑(List.length b) : Int) - 1))) (lat d f)).snd.fst], d, e, IntKind.wrap IntKind.i64 (f + 1), ()), (g, ()), ())) else none else none else some (Sum.inl ((a, (), b, c, d, e, IntKind.wrap IntKind.i64 (f + 1), ()), (g, ()), ())) else none else none else some (Sum.inr ((a, (), b, c, ()), (g, ()), ()))
def g_law15_MemberRuns_r3 : (List Int × Unit × List Tree × List Rekey × Int × Unit × Int × List Int × Int × Int × Unit) × (Tree × Member × Unit) × Unit → Option (((List Int × Unit × List Tree × List Rekey × Int × Unit × Int × List Int × Int × Int × Unit) × (Tree × Member × Unit) × Unit) ⊕ ((List Int × Unit × List Tree × List Rekey × Int × Unit × Int × Unit) × (Tree × Member × Unit) × Unit ⊕ (Bool × Unit) × Unit × Unit))
  | ((a, _, b, c, d, _, e, f, g, h, _), (i, j, _), _) => bif decide (h < g) then bif decide (0 ≤ h) && decide (h < (↑(List.length f) : Int)) then bif !decide (IntKind.wrap IntKind.u64 (↑(List.length c) : Int) = 0) then bif decide (0 ≤ IntKind.wrap IntKind.i64 (Int.tmod (IntKind.wrap IntKind.u64 (lat f h)) (IntKind.wrap IntKind.u64 (↑(List.length c) : Int)))) && decide (IntKind.wrap IntKind.i64 (Int.tmod (IntKind.wrap IntKind.u64 (lat f h)) (IntKind.wrap IntKind.u64 (↑(List.length c) : Int))) < (↑(List.length c) : Int)) then bif (applyM j (lat c (IntKind.wrap IntKind.i64 (Int.tmod (IntKind.wrap IntKind.u64 (lat f h)) (IntKind.wrap IntKind.u64 (↑(List.length c) : Int)))))).fst.Out then some (Sum.inr (Sum.inl ((a, (), b, c, d, (), e, ()), (i, (applyM j (lat c (IntKind.wrap IntKind.i64 (Int.tmod (IntKind.wrap IntKind.u64 (lat f h)) (IntKind.wrap IntKind.u64 (↑(List.length c) : Int)))))).fst, ()), ()))) else bif decide ((applyM j (lat c (IntKind.wrap IntKind.i64 (Int.tmod (IntKind.wrap IntKind.u64 (lat f h)) (IntKind.wrap IntKind.u64 (↑(List.length c) : Int)))))).snd = 20) then some (Sum.inr (Sum.inl ((a, (), b, c, d, (), e, ()), (i, (applyM j (lat c (IntKind.wrap IntKind.i64 (Int.tmod (IntKind.wrap IntKind.u64 (lat f h)) (IntKind.wrap IntKind.u64 (↑(List.length c) : Int)))))).fst, ()), ()))) else bif !decide (decide ((applyM j (lat c (IntKind.wrap IntKind.i64 (Int.tmod (IntKind.wrap IntKind.u64 (lat f h)) (IntKind.wrap IntKind.u64 (↑(List.length c) : Int)))))).snd = 0) = decide (IntKind.wrap IntKind.i64 (Int.tmod (IntKind.wrap IntKind.u64 (lat f h)) (IntKind.wrap IntKind.u64 (↑(List.length c) : Int))) = e)) then some (Sum.inr (Sum.inr ((false, ()), (), ()))) else bif !decide (decide ((applyM j (lat c (IntKind.wrap IntKind.i64 (Int.tmod (IntKind.wrap IntKind.u64 (lat f h)) (IntKind.wrap IntKind.u64 (↑(List.length c) : Int)))))).snd = 21) = decide (IntKind.wrap IntKind.i64 (Int.tmod (IntKind.wrap IntKind.u64 (lat f h)) (IntKind.wrap IntKind.u64 (↑(List.length c) : Int))) < e)) then some (Sum.inr (Sum.inr ((false, ()), (), ()))) else bif !decide (decide ((applyM j (lat c (IntKind.wrap IntKind.i64 (Int.tmod (IntKind.wrap IntKind.u64 (lat f h)) (IntKind.wrap IntKind.u64 (↑(List.length c) : Int)))))).snd = 22) = decide (e < IntKind.wrap IntKind.i64 (Int.tmod (IntKind.wrap IntKind.u64 (lat f h)) (IntKind.wrap IntKind.u64 (↑(List.length c) : Int))))) then some (Sum.inr (Sum.inr ((false, ()), (), ()))) else bif decide ((applyM j (lat c (IntKind.wrap IntKind.i64 (Int.tmod (IntKind.wrap IntKind.u64 (lat f h)) (IntKind.wrap IntKind.u64 (↑(List.length c) : Int)))))).snd = 0) then bif decide (0 ≤ IntKind.wrap IntKind.i64 (e + 1)) && decide (IntKind.wrap IntKind.i64 (e + 1) < (↑(List.length b) : Int)) then bif !decide ((stand (lat b (IntKind.wrap IntKind.i64 (e + 1))) (applyM j (lat c (IntKind.wrap IntKind.i64 (Int.tmod (IntKind.wrap IntKind.u64 (lat f h)) (IntKind.wrap IntKind.u64 (↑(List.length c) : Int)))))).fst.Who).snd = 0) then some (Sum.inr (Sum.inr ((false, ()), (), ()))) else bif !decide ((applyM j (lat c (IntKind.wrap IntKind.i64 (Int.tmod (IntKind.wrap IntKind.u64 (lat f h)) (IntKind.wrap IntKind.u64 (↑(List.length c) : Int)))))).fst = Member.mk (stand (lat b (IntKind.wrap IntKind.i64 (e + 1))) (applyM j (lat c (IntKind.wrap IntKind.i64 (Int.tmod (IntKind.wrap IntKind.u64 (lat f h)) (IntKind.wrap IntKind.u64 (↑(List.length c) : Int)))))).fst.Who).fst.Who (stand (lat b (IntKind.wrap IntKind.i64 (e + 1))) (applyM j (lat c (IntKind.wrap IntKind.i64 (Int.tmod (IntKind.wrap IntKind.u64 (lat f h)) (IntKind.wrap IntKind.u64 (↑(List.length c) : Int)))))).fst.Who).fst.Slot (stand (lat b (IntKind.wrap IntKind.i64 (e + 1))) (applyM j (lat c (IntKind.wrap IntKind.i64 (Int.tmod (IntKind.wrap IntKind.u64 (lat f h)) (IntKind.wrap IntKind.u64 (↑(List.length c) : Int)))))).fst.Who).fst.Epoch (stand (lat b (IntKind.wrap IntKind.i64 (e + 1))) (applyM j (lat c (IntKind.wrap IntKind.i64 (Int.tmod (IntKind.wrap IntKind.u64 (lat f h)) (IntKind.wrap IntKind.u64 (↑(List.length c) : Int)))))).fst.Who).fst.Leaf (stand (lat b (IntKind.wrap IntKind.i64 (e + 1))) (applyM j (lat c (IntKind.wrap IntKind.i64 (Int.tmod (IntKind.wrap IntKind.u64 (lat f h)) (IntKind.wrap IntKind.u64 (↑(List.length c) : Int)))))).fst.Who).fst.Path (stand (lat b (IntKind.wrap IntKind.i64 (e + 1))) (applyM j (lat c (IntKind.wrap IntKind.i64 (Int.tmod (IntKind.wrap IntKind.u64 (lat f h)) (IntKind.wrap IntKind.u64 (↑(List.length c) : Int)))))).fst.Who).fst.Has (stand (lat b (IntKind.wrap IntKind.i64 (e + 1))) (applyM j (lat c (IntKind.wrap IntKind.i64 (Int.tmod (IntKind.wrap IntKind.u64 (lat f h)) (IntKind.wrap IntKind.u64 (↑(List.length c) : Int)))))).fst.Who).fst.Out (applyM j (lat c (IntKind.wrap IntKind.i64 (Int.tmod (IntKind.wrap IntKind.u64 (lat f h)) (IntKind.wrap IntKind.u64 (↑(List.length c) : Int)))))).fst.Behind) then some (Sum.inr (Sum.inr ((false, ()), (), ()))) else bif !decide ((applyM j (lat c (IntKind.wrap IntKind.i64 (Int.tmod (IntKind.wrap IntKind.u64 (lat f h)) (IntKind.wrap IntKind.u64 (↑(List.length c) : Int)))))).fst.Behind = 0) then bif decide ((applyM j (lat c (IntKind.wrap IntKind.i64 (Int.tmod (IntKind.wrap IntKind.u64 (lat f h)) (IntKind.wrap IntKind.u64 (↑(List.length c) : Int)))))).fst.Behind ≤ (applyM j (lat c (IntKind.wrap IntKind.i64 (Int.tmod (IntKind.wrap IntKind.u64 (lat f h)) (IntKind.wrap IntKind.u64 (↑(List.length c) : Int)))))).fst.Epoch) then some (Sum.inr (Sum.inr ((false, ()), (), ()))) else bif decide ((applyM j (lat c (IntKind.wrap IntKind.i64 (Int.tmod (IntKind.wrap IntKind.u64 (lat f h)) (IntKind.wrap IntKind.u64 (↑(List.length c) : Int)))))).snd = 22) then bif decide (0 ≤ IntKind.wrap IntKind.i64 (Int.tmod (IntKind.wrap IntKind.u64 (lat f h)) (IntKind.wrap IntKind.u64 (↑(List.length c) : Int)))) && decide (IntKind.wrap IntKind.i64 (Int.tmod (IntKind.wrap IntKind.u64 (lat f h)) (IntKind.wrap IntKind.u64 (↑(List.length c) : Int))) < (↑(List.length c) : Int)) then bif decide ((applyM j (lat c (IntKind.wrap IntKind.i64 (Int.tmod (IntKind.wrap IntKind.u64 (lat f h)) (IntKind.wrap IntKind.u64 (↑(List.length c) : Int)))))).fst.Behind < (lat c (IntKind.wrap IntKind.i64 (Int.tmod (IntKind.wrap IntKind.u64 (lat f h)) (IntKind.wrap IntKind.u64 (↑(List.length c) : Int))))).Epoch) then some (Sum.inr (Sum.inr ((false, ()), (), ()))) else some (Sum.inl ((a, (), b, c, d, (), IntKind.wrap IntKind.i64 (e + 1), f, g, IntKind.wrap IntKind.i64 (h + 1), ()), (i, (applyM j (lat c (IntKind.wrap IntKind.i64 (Int.tmod (IntKind.wrap IntKind.u64 (lat f h)) (IntKind.wrap IntKind.u64 (↑(List.length c) : Int)))))).fst, ()), ())) else none else some (Sum.inl ((a, (), b, c, d, (), IntKind.wrap IntKind.i64 (e + 1), f, g, IntKind.wrap IntKind.i64 (h + 1), ()), (i, (applyM j (lat c (IntKind.wrap IntKind.i64 (Int.tmod (IntKind.wrap IntKind.u64 (lat f h)) (IntKind.wrap IntKind.u64 (↑(List.length c) : Int)))))).fst, ()), ())) else bif decide ((applyM j (lat c (IntKind.wrap IntKind.i64 (Int.tmod (IntKind.wrap IntKind.u64 (lat f h)) (IntKind.wrap IntKind.u64 (↑(List.length c) : Int)))))).snd = 22) then bif decide (0 ≤ IntKind.wrap IntKind.i64 (Int.tmod (IntKind.wrap IntKind.u64 (lat f h)) (IntKind.wrap IntKind.u64 (↑(List.length c) : Int)))) && decide (IntKind.wrap IntKind.i64 (Int.tmod (IntKind.wrap IntKind.u64 (lat f h)) (IntKind.wrap IntKind.u64 (↑(List.length c) : Int))) < (↑(List.length c) : Int)) then bif decide ((applyM j (lat c (IntKind.wrap IntKind.i64 (Int.tmod (IntKind.wrap IntKind.u64 (lat f h)) (IntKind.wrap IntKind.u64 (↑(List.length c) : Int)))))).fst.Behind < (lat c (IntKind.wrap IntKind.i64 (Int.tmod (IntKind.wrap IntKind.u64 (lat f h)) (IntKind.wrap IntKind.u64 (↑(List.length c) : Int))))).Epoch) then some (Sum.inr (Sum.inr ((false, ()), (), ()))) else some (Sum.inl ((a, (), b, c, d, (), IntKind.wrap IntKind.i64 (e + 1), f, g, IntKind.wrap IntKind.i64 (h + 1), ()), (i, (applyM j (lat c (IntKind.wrap IntKind.i64 (Int.tmod (IntKind.wrap IntKind.u64 (lat f h)) (IntKind.wrap IntKind.u64 (↑(List.length c) : Int)))))).fst, ()), ())) else none else some (Sum.inl ((a, (), b, c, d, (), IntKind.wrap IntKind.i64 (e + 1), f, g, IntKind.wrap IntKind.i64 (h + 1), ()), (i, (applyM j (lat c (IntKind.wrap IntKind.i64 (Int.tmod (IntKind.wrap IntKind.u64 (lat f h)) (IntKind.wrap IntKind.u64 (↑(List.length c) : Int)))))).fst, ()), ())) else none else bif decide (0 ≤ e) && decide (e < (↑(List.length b) : Int)) then bif !decide ((stand (lat b e) (applyM j (lat c (IntKind.wrap IntKind.i64 (Int.tmod (IntKind.wrap IntKind.u64 (lat f h)) (IntKind.wrap IntKind.u64 (↑(List.length c) : Int)))))).fst.Who).snd = 0) then some (Sum.inr (Sum.inr ((false, ()), (), ()))) else bif !decide ((applyM j (lat c (IntKind.wrap IntKind.i64 (Int.tmod (IntKind.wrap IntKind.u64 (lat f h)) (IntKind.wrap IntKind.u64 (↑(List.length c) : Int)))))).fst = Member.mk (stand (lat b e) (applyM j (lat c (IntKind.wrap IntKind.i64 (Int.tmod (IntKind.wrap IntKind.u64 (lat f h)) (IntKind.wrap IntKind.u64 (↑(List.length c) : Int)))))).fst.Who).fst.Who (stand (lat b e) (applyM j (lat c (IntKind.wrap IntKind.i64 (Int.tmod (IntKind.wrap IntKind.u64 (lat f h)) (IntKind.wrap IntKind.u64 (↑(List.length c) : Int)))))).fst.Who).fst.Slot (stand (lat b e) (applyM j (lat c (IntKind.wrap IntKind.i64 (Int.tmod (IntKind.wrap IntKind.u64 (lat f h)) (IntKind.wrap IntKind.u64 (↑(List.length c) : Int)))))).fst.Who).fst.Epoch (stand (lat b e) (applyM j (lat c (IntKind.wrap IntKind.i64 (Int.tmod (IntKind.wrap IntKind.u64 (lat f h)) (IntKind.wrap IntKind.u64 (↑(List.length c) : Int)))))).fst.Who).fst.Leaf (stand (lat b e) (applyM j (lat c (IntKind.wrap IntKind.i64 (Int.tmod (IntKind.wrap IntKind.u64 (lat f h)) (IntKind.wrap IntKind.u64 (↑(List.length c) : Int)))))).fst.Who).fst.Path (stand (lat b e) (applyM j (lat c (IntKind.wrap IntKind.i64 (Int.tmod (IntKind.wrap IntKind.u64 (lat f h)) (IntKind.wrap IntKind.u64 (↑(List.length c) : Int)))))).fst.Who).fst.Has (stand (lat b e) (applyM j (lat c (IntKind.wrap IntKind.i64 (Int.tmod (IntKind.wrap IntKind.u64 (lat f h)) (IntKind.wrap IntKind.u64 (↑(List.length c) : Int)))))).fst.Who).fst.Out (applyM j (lat c (IntKind.wrap IntKind.i64 (Int.tmod (IntKind.wrap IntKind.u64 (lat f h)) (IntKind.wrap IntKind.u64 (↑(List.length c) : Int)))))).fst.Behind) then some (Sum.inr (Sum.inr ((false, ()), (), ()))) else bif !decide ((applyM j (lat c (IntKind.wrap IntKind.i64 (Int.tmod (IntKind.wrap IntKind.u64 (lat f h)) (IntKind.wrap IntKind.u64 (↑(List.length c) : Int)))))).fst.Behind = 0) then bif decide ((applyM j (lat c (IntKind.wrap IntKind.i64 (Int.tmod (IntKind.wrap IntKind.u64 (lat f h)) (IntKind.wrap IntKind.u64 (↑(List.length c) : Int)))))).fst.Behind ≤ (applyM j (lat c (IntKind.wrap IntKind.i64 (Int.tmod (IntKind.wrap IntKind.u64 (lat f h)) (IntKind.wrap IntKind.u64 (↑(List.length c) : Int)))))).fst.Epoch) then some (Sum.inr (Sum.inr ((false, ()), (), ()))) else bif decide ((applyM j (lat c (IntKind.wrap IntKind.i64 (Int.tmod (IntKind.wrap IntKind.u64 (lat f h)) (IntKind.wrap IntKind.u64 (↑(List.length c) : Int)))))).snd = 22) then bif decide (0 ≤ IntKind.wrap IntKind.i64 (Int.tmod (IntKind.wrap IntKind.u64 (lat f h)) (IntKind.wrap IntKind.u64 (↑(List.length c) : Int)))) && decide (IntKind.wrap IntKind.i64 (Int.tmod (IntKind.wrap IntKind.u64 (lat f h)) (IntKind.wrap IntKind.u64 (↑(List.length c) : Int))) < (↑(List.length c) : Int)) then bif decide ((applyM j (lat c (IntKind.wrap IntKind.i64 (Int.tmod (IntKind.wrap IntKind.u64 (lat f h)) (IntKind.wrap IntKind.u64 (↑(List.length c) : Int)))))).fst.Behind < (lat c (IntKind.wrap IntKind.i64 (Int.tmod (IntKind.wrap IntKind.u64 (lat f h)) (IntKind.wrap IntKind.u64 (↑(List.length c) : Int))))).Epoch) then some (Sum.inr (Sum.inr ((false, ()), (), ()))) else some (Sum.inl ((a, (), b, c, d, (), e, f, g, IntKind.wrap IntKind.i64 (h + 1), ()), (i, (applyM j (lat c (IntKind.wrap IntKind.i64 (Int.tmod (IntKind.wrap IntKind.u64 (lat f h)) (IntKind.wrap IntKind.u64 (↑(List.length c) : Int)))))).fst, ()), ())) else none else some (Sum.inl ((a, (), b, c, d, (), e, f, g, IntKind.wrap IntKind.i64 (h + 1), ()), (i, (applyM j (lat c (IntKind.wrap IntKind.i64 (Int.tmod (IntKind.wrap IntKind.u64 (lat f h)) (IntKind.wrap IntKind.u64 (↑(List.length c) : Int)))))).fst, ()), ())) else bif decide ((applyM j (lat c (IntKind.wrap IntKind.i64 (Int.tmod (IntKind.wrap IntKind.u64 (lat f h)) (IntKind.wrap IntKind.u64 (↑(List.length c) : Int)))))).snd = 22) then bif decide (0 ≤ IntKind.wrap IntKind.i64 (Int.tmod (IntKind.wrap IntKind.u64 (lat f h)) (IntKind.wrap IntKind.u64 (↑(List.length c) : Int)))) && decide (IntKind.wrap IntKind.i64 (Int.tmod (IntKind.wrap IntKind.u64 (lat f h)) (IntKind.wrap IntKind.u64 (↑(List.length c) : Int))) < (↑(List.length c) : Int)) then bif decide ((applyM j (lat c (IntKind.wrap IntKind.i64 (Int.tmod (IntKind.wrap IntKind.u64 (lat f h)) (IntKind.wrap IntKind.u64 (↑(List.length c) : Int)))))).fst.Behind < (lat c (IntKind.wrap IntKind.i64 (Int.tmod (IntKind.wrap IntKind.u64 (lat f h)) (IntKind.wrap IntKind.u64 (↑(List.length c) : Int))))).Epoch) then some (Sum.inr (Sum.inr ((false, ()), (), ()))) else some (Sum.inl ((a, (), b, c, d, (), e, f, g, IntKind.wrap IntKind.i64 (h + 1), ()), (i, (applyM j (lat c (IntKind.wrap IntKind.i64 (Int.tmod (IntKind.wrap IntKind.u64 (lat f h)) (IntKind.wrap IntKind.u64 (↑(List.length c) : Int)))))).fst, ()), ())) else none else some (Sum.inl ((a, (), b, c, d, (), e, f, g, IntKind.wrap IntKind.i64 (h + 1), ()), (i, (applyM j (lat c (IntKind.wrap IntKind.i64 (Int.tmod (IntKind.wrap IntKind.u64 (lat f h)) (IntKind.wrap IntKind.u64 (↑(List.length c) : Int)))))).fst, ()), ())) else none else none else none else none else some (Sum.inr (Sum.inl ((a, (), b, c, d, (), e, ()), (i, j, ()), ())))
def g_law15_MemberRuns_r2 : (List Int × Unit × List Tree × List Rekey × Int × Unit) × (Tree × Unit) × Unit → Option (((List Int × Unit × List Tree × List Rekey × Int × Unit) × (Tree × Unit) × Unit) ⊕ ((Bool × Unit) × Unit × Unit ⊕ Unit × Unit × Unit))
  | ((a, _, b, c, d, _), (e, _), _) => bif decide (d < 64) then bif decide (0 ≤ d) && decide (d < 64) then bif decide ((Arr.get e.Roster d).Base = 0) then some (Sum.inl ((a, (), b, c, IntKind.wrap IntKind.i64 (d + 1), ()), (e, ()), ())) else bif decide (0 ≤ d) && decide (d < 64) then bif !decide ((stand e (Arr.get e.Roster d).Who).snd = 0) then some (Sum.inr (Sum.inl ((true, ()), (), ()))) else Option.bind (lfp g_law15_MemberRuns_r3 ((a, (), b, c, d, (), 0, a, (↑(List.length a) : Int), 0, ()), (e, (stand e (Arr.get e.Roster d).Who).fst, ()), ())) fun z => Sum.elim (fun x => bif x.snd.fst.snd.fst.Out then bif decide (0 ≤ IntKind.wrap IntKind.i64 (x.fst.snd.snd.snd.snd.snd.snd.fst + 1)) && decide (IntKind.wrap IntKind.i64 (x.fst.snd.snd.snd.snd.snd.snd.fst + 1) < (↑(List.length x.fst.snd.snd.fst) : Int)) then bif decide (findR (lat x.fst.snd.snd.fst (IntKind.wrap IntKind.i64 (x.fst.snd.snd.snd.snd.snd.snd.fst + 1))).Roster x.snd.fst.snd.fst.Who = x.fst.snd.snd.snd.snd.fst) then bif decide (0 ≤ IntKind.wrap IntKind.i64 (x.fst.snd.snd.snd.snd.snd.snd.fst + 1)) && decide (IntKind.wrap IntKind.i64 (x.fst.snd.snd.snd.snd.snd.snd.fst + 1) < (↑(List.length x.fst.snd.snd.fst) : Int)) then bif decide (0 ≤ x.fst.snd.snd.snd.snd.fst) && decide (x.fst.snd.snd.snd.snd.fst < 64) then bif decide (0 ≤ x.fst.snd.snd.snd.snd.fst) && decide (x.fst.snd.snd.snd.snd.fst < 64) then bif decide (Arr.get (lat x.fst.snd.snd.fst (IntKind.wrap IntKind.i64 (x.fst.snd.snd.snd.snd.snd.snd.fst + 1))).Roster x.fst.snd.snd.snd.snd.fst = Arr.get x.snd.fst.fst.Roster x.fst.snd.snd.snd.snd.fst) then some (Sum.inr (Sum.inl ((false, ()), (), ()))) else some (Sum.inl ((x.fst.fst, (), x.fst.snd.snd.fst, x.fst.snd.snd.snd.fst, IntKind.wrap IntKind.i64 (x.fst.snd.snd.snd.snd.fst + 1), ()), (x.snd.fst.fst, ()), ())) else none else none else none else some (Sum.inl ((x.fst.fst, (), x.fst.snd.snd.fst, x.fst.snd.snd.snd.fst, IntKind.wrap IntKind.i64 (x.fst.snd.snd.snd.snd.fst + 1), ()), (x.snd.fst.fst, ()), ())) else none else some (Sum.inl ((x.fst.fst, (), x.fst.snd.snd.fst, x.fst.snd.snd.snd.fst, IntKind.wrap IntKind.i64 (x.fst.snd.snd.snd.snd.fst + 1), ()), (x.snd.fst.fst, ()), ()))) (fun z => some (Sum.inr (Sum.inl ((z.fst.fst, ()), (), ())))) z else none else none else some (Sum.inr (Sum.inr ((), (), ())))
/-- coterie/coterielaw15.MemberRuns -/
def g_law15_MemberRuns : Tree × List Batch × List Int × Unit → Option (Bool × Unit)
  | (a, b, c, _) => Option.bind (lfp g_law15_MemberRuns_r1 ((c, (), [a], [], b, (↑(List.length b) : Int), 0, ()), (a, ()), ())) fun z => bif decide ((↑(List.length z.fst.snd.snd.snd.fst) : Int) = 0) then some (true, ()) else Option.bind (lfp g_law15_MemberRuns_r2 ((z.fst.fst, (), z.fst.snd.snd.fst, z.fst.snd.snd.snd.fst, 0, ()), (z.snd.fst.fst, ()), ())) fun z => Sum.elim (fun x => some (x.fst.fst, ())) (fun _ => some (true, ())) z
end Go.Co.N
end
end

section
namespace Go.Co.N
open Go Go.Co

def asksM (m : Member) : Int := bif decide (kind m = 1) then 20 else bif decide (kind m = 2) || decide (kind m = 3) then 0 else 30
abbrev c_recovery_asks : Con := ⟨[.st .member], [.i], fun x => some (asksM x.1, ())⟩
def needsM (m : Member) : Bool := decide (kind m = 2) || (decide (kind m = 3) && !decide (m.Behind = 0))
abbrev c_recovery_Needs : Con := ⟨[.st .member], [.bool], fun x => some (needsM x.1, ())⟩
abbrev c_ref16_Needs : Con := ⟨[.st .member], [.bool], fun x => some (needsM x.1, ())⟩
def askM (m : Member) : Request × Int := bif decide (asksM m = 0) then (⟨m.Who, m.Epoch⟩, 0) else (zeroQ, asksM m)
abbrev c_recovery_Ask : Con := ⟨[.st .member], [.st .request, .i], fun x => some ((askM x.1).1, (askM x.1).2, ())⟩
abbrev c_ref16_Ask : Con := ⟨[.st .member], [.st .request, .i], fun x => some ((askM x.1).1, (askM x.1).2, ())⟩
def sealK (u l : Key) : Box × Int := bif good u && good l then (⟨u, l⟩, 0) else (St.zero .box, 3)
abbrev c_key_Seal : Con := ⟨[.st .key, .st .key], [.st .box, .i], fun x => some ((sealK x.1 x.2.1).1, (sealK x.1 x.2.1).2, ())⟩
abbrev c_ref02_Open : Con := ⟨[.st .box, .st .key], [.st .key, .i], fun x => some ((openB x.1 x.2.1).1, (openB x.1 x.2.1).2, ())⟩
abbrev c_ref14_person : Con := ⟨[.i], [.bool], fun x => some (betw x.1 0 255, ())⟩
abbrev c_ref14_slot : Con := ⟨[.i], [.bool], fun x => some (betw x.1 0 63, ())⟩
abbrev c_ref14_GoodReply : Con := ⟨[.st .reply], [.bool], fun x => some (goodReply x.1, ())⟩
abbrev c_ref15_Calm : Con := ⟨[.st .member], [.st .member], fun x => some (calm x.1, ())⟩
/-- The reply to who stands so. -/
def replyOf (m : Member) : Reply := ⟨m.Who, m.Slot, m.Epoch, Arr.make fun i => ⟨m.Leaf, Arr.get m.Path i⟩⟩
def answerT (t : Tree) (q : Request) : Reply × Int :=
  bif goodTree t then
    bif betw q.Who 0 255 then
      bif decide ((stand t q.Who).2 = 0) then
        bif betw q.Epoch 1 t.Epoch then (replyOf (stand t q.Who).1, 0) else (zeroY, 32)
      else (zeroY, 16)
    else (zeroY, 14)
  else (zeroY, 31)
abbrev c_recovery_Answer : Con := ⟨[.st .tree, .st .request], [.st .reply, .i], fun x => some ((answerT x.1 x.2.1).1, (answerT x.1 x.2.1).2, ())⟩
abbrev c_ref16_Answer : Con := ⟨[.st .tree, .st .request], [.st .reply, .i], fun x => some ((answerT x.1 x.2.1).1, (answerT x.1 x.2.1).2, ())⟩
/-- May the device take the reply? The error if it mayn't. -/
def fitsP (m : Member) (p : Reply) : Int :=
  bif decide (asksM m = 0) then
    bif goodReply p then
      bif decide (p.Who = m.Who) && decide (p.Slot = m.Slot) then
        bif decide (p.Epoch < m.Epoch) || (m.Has && decide (p.Epoch = m.Epoch)) then 21 else 0
      else 24
    else 13
  else asksM m
abbrev c_recovery_fits : Con := ⟨[.st .member, .st .reply], [.i], fun x => some (fitsP x.1 x.2.1, ())⟩
def loads (p : Reply) : Path := Arr.make fun i => (Arr.get p.Path (i : Int)).Load
def takeM (m : Member) (p : Reply) : Member × Int :=
  bif decide (fitsP m p = 0) then
    bif decide ((ahead m.Leaf (p.Epoch - m.Epoch)).2 = 0) then
      bif allN 3 fun i => gives (ahead m.Leaf (p.Epoch - m.Epoch)).1 (Arr.get p.Path (i : Int)).Under then
        (calm ⟨m.Who, m.Slot, p.Epoch, (ahead m.Leaf (p.Epoch - m.Epoch)).1, loads p, true, false, m.Behind⟩, 0)
      else (m, 5)
    else (m, 4)
  else (m, fitsP m p)
abbrev c_recovery_Take : Con := ⟨[.st .member, .st .reply], [.st .member, .i], fun x => some ((takeM x.1 x.2.1).1, (takeM x.1 x.2.1).2, ())⟩
abbrev c_ref16_Take : Con := ⟨[.st .member, .st .reply], [.st .member, .i], fun x => some ((takeM x.1 x.2.1).1, (takeM x.1 x.2.1).2, ())⟩

/-! ### The laws of chapter 16 -/
/-- So many steps of nobody. -/
def restT : Nat → Tree → Tree
  | 0, t => t
  | n + 1, t => (nextR (restT n t) ⟨[], []⟩).1
abbrev c_law16_three : Con := ⟨[.i], [.st .tree], fun x => guardK (decide (0 ≤ (x.1 : Int)) && decide ((x.1 : Int) ≤ 10)) (some (restT (x.1 : Int).toNat threeT, ()))⟩
abbrev c_law16_lives : Con := c_True []
abbrev c_law16_RecoveryAsks : Con := c_True [.st .member]
abbrev c_law16_RecoveryAnswers : Con := c_True [.st .tree, .st .request]
abbrev c_law16_RecoveryTakes : Con := c_True [.st .member, .st .reply]
abbrev c_law16_RecoveryBrings : Con := c_True [.st .lag]
abbrev c_law16_RecoveryStrange : Con := c_True [.st .tree, .i, .st .key]
abbrev c_law16_RecoveryYoung : Con := c_True [.st .lag]
end Go.Co.N
end

section
set_option maxRecDepth 100000
noncomputable section
namespace Go.Co.N
open Go Go.Co
/-- coterie/key.Seal -/
def g_key_Seal : Key × Key × Unit → Option (Box × Int × Unit)
  | (a, b, _) => bif !good a then some (Box.mk (St.zero St.key) (St.zero St.key), 3, ()) else bif !good b then some (Box.mk (St.zero St.key) (St.zero St.key), 3, ()) else some (Box.mk a b, 0, ())
/-- coterie/coterieref02.GoodBox -/
def g_ref02_GoodBox : Box × Unit → Option (Bool × Unit)
  | (a, _) => bif good a.Under then some (good a.Load, ()) else some (false, ())
/-- coterie/coterieref02.Open -/
def g_ref02_Open : Box × Key × Unit → Option (Key × Int × Unit)
  | (a, b, _) => bif !goodBox a then some (Key.mk 0 0, 3, ()) else bif !good b then some (Key.mk 0 0, 3, ()) else bif !gives b a.Under then some (Key.mk 0 0, 5, ()) else some (a.Load, 0, ())
/-- coterie/coterieref15.Calm -/
def g_ref15_Calm : Member × Unit → Option (Member × Unit)
  | (a, _) => bif decide (a.Behind ≤ a.Epoch) then some (Member.mk a.Who a.Slot a.Epoch a.Leaf a.Path a.Has a.Out 0, ()) else some (a, ())
/-- coterie/coterieref14.person -/
def g_ref14_person : Int × Unit → Option (Bool × Unit)
  | (a, _) => bif decide (0 ≤ a) then some (decide (a < 256), ()) else some (false, ())
/-- coterie/coterieref14.slot -/
def g_ref14_slot : Int × Unit → Option (Bool × Unit)
  | (a, _) => bif decide (0 ≤ a) then some (decide (a < 64), ()) else some (false, ())
def g_ref14_GoodReply_r1 : (Unit × Int × Unit) × (Reply × Unit) × Unit → Option (((Unit × Int × Unit) × (Reply × Unit) × Unit) ⊕ ((Bool × Unit) × Unit × Unit ⊕ (Unit × Unit) × (Reply × Unit) × Unit))
  | ((_, a, _), (b, _), _) => bif decide (a < 3) then bif decide (0 ≤ a) && decide (a < 3) then bif !goodBox (Arr.get b.Path a) then some (Sum.inr (Sum.inl ((false, ()), (), ()))) else some (Sum.inl (((), IntKind.wrap IntKind.i64 (a + 1), ()), (b, ()), ())) else none else some (Sum.inr (Sum.inr (((), ()), (b, ()), ())))
/-- coterie/coterieref14.GoodReply -/
def g_ref14_GoodReply : Reply × Unit → Option (Bool × Unit)
  | (a, _) => Option.bind (lfp g_ref14_GoodReply_r1 (((), 0, ()), (a, ()), ())) fun z => Sum.elim (fun x => some (x.fst.fst, ())) (fun z => bif betw z.snd.fst.fst.Who 0 255 then bif betw z.snd.fst.fst.Slot 0 63 then some (betw z.snd.fst.fst.Epoch 1 200, ()) else some (false, ()) else some (false, ())) z
/-- coterie/recovery.asks -/
def g_recovery_asks : Member × Unit → Option (Int × Unit)
  | (a, _) => bif decide (kind a = 1) then some (20, ()) else bif decide (kind a = 2) then some (0, ()) else bif decide (kind a = 3) then some (0, ()) else some (30, ())
/-- coterie/recovery.Needs -/
def g_recovery_Needs : Member × Unit → Option (Bool × Unit)
  | (a, _) => bif decide (asksM a = 0) then bif !a.Has then some (true, ()) else some (!decide (a.Behind = 0), ()) else some (false, ())
/-- coterie/recovery.Ask -/
def g_recovery_Ask : Member × Unit → Option (Request × Int × Unit)
  | (a, _) => bif !decide (asksM a = 0) then some (Request.mk 0 0, asksM a, ()) else some (Request.mk a.Who a.Epoch, 0, ())
def g_recovery_Answer_r1 : (Unit × Unit × Unit × Vector Key 3 × Int × Unit) × (Reply × Member × Reply × Unit) × Unit → Option (((Unit × Unit × Unit × Vector Key 3 × Int × Unit) × (Reply × Member × Reply × Unit) × Unit) ⊕ ((Unit × Unit × Unit) × (Reply × Reply × Unit) × Unit))
  | ((_, _, _, a, b, _), (c, d, e, _), _) => bif decide (b < 3) then bif decide (0 ≤ b) && decide (b < 3) then bif decide (0 ≤ b) && decide (b < 3) then some (Sum.inl (((), (), (), a, IntKind.wrap IntKind.i64 (b + 1), ()), (c, d, Reply.mk e.Who e.Slot e.Epoch (Arr.put e.Path b (sealK d.Leaf (Arr.get a b)).fst), ()), ())) else none else none else some (Sum.inr (((), (), ()), (c, e, ()), ()))
/-- coterie/recovery.Answer -/
def g_recovery_Answer : Tree × Request × Unit → Option (Reply × Int × Unit)
  | (a, b, _) => bif !decide (chkT a = 0) then some (Reply.mk 0 0 0 (Vector.replicate 3 (St.zero St.box)), chkT a, ()) else bif decide (b.Who < 0) then some (Reply.mk 0 0 0 (Vector.replicate 3 (St.zero St.box)), 14, ()) else bif decide (256 ≤ b.Who) then some (Reply.mk 0 0 0 (Vector.replicate 3 (St.zero St.box)), 14, ()) else bif !decide ((stand a b.Who).snd = 0) then some (Reply.mk 0 0 0 (Vector.replicate 3 (St.zero St.box)), (stand a b.Who).snd, ()) else bif decide (b.Epoch < 1) then some (Reply.mk 0 0 0 (Vector.replicate 3 (St.zero St.box)), 32, ()) else bif decide (a.Epoch < b.Epoch) then some (Reply.mk 0 0 0 (Vector.replicate 3 (St.zero St.box)), 32, ()) else Option.bind (lfp g_recovery_Answer_r1 (((), (), (), (stand a b.Who).fst.Path, 0, ()), (St.zero St.reply, (stand a b.Who).fst, Reply.mk (stand a b.Who).fst.Who (stand a b.Who).fst.Slot (stand a b.Who).fst.Epoch (Vector.replicate 3 (St.zero St.box)), ()), ())) fun z => some (z.snd.fst.snd.fst, 0, ())
/-- coterie/recovery.fits -/
def g_recovery_fits : Member × Reply × Unit → Option (Int × Unit)
  | (a, b, _) => bif !decide (asksM a = 0) then some (asksM a, ()) else bif !goodMsg (Message.mk 3 (St.zero St.rekey) (St.zero St.request) b (St.zero St.sealed)) then some (13, ()) else bif !decide (b.Who = a.Who) then some (24, ()) else bif !decide (b.Slot = a.Slot) then some (24, ()) else bif decide (b.Epoch < a.Epoch) then some (21, ()) else bif a.Has then bif decide (b.Epoch = a.Epoch) then some (21, ()) else some (0, ()) else some (0, ())
def g_recovery_Take_r1 : (Unit × Unit × Unit × Vector Box 3 × Int × Unit) × (Member × Member × Member × Unit) × Unit → Option (((Unit × Unit × Unit × Vector Box 3 × Int × Unit) × (Member × Member × Member × Unit) × Unit) ⊕ ((Unit × Int × Unit) × (Member × Unit) × Unit ⊕ (Unit × Unit × Unit × Unit) × (Member × Member × Member × Unit) × Unit))
  | ((_, _, _, a, b, _), (c, d, e, _), _) => bif decide (b < 3) then bif decide (0 ≤ b) && decide (b < 3) then bif decide (0 ≤ b) && decide (b < 3) then bif !decide ((openB (Arr.get a b) e.Leaf).snd = 0) then some (Sum.inr (Sum.inl (((), (openB (Arr.get a b) e.Leaf).snd, ()), (c, ()), ()))) else some (Sum.inl (((), (), (), a, IntKind.wrap IntKind.i64 (b + 1), ()), (c, d, Member.mk e.Who e.Slot e.Epoch e.Leaf (Arr.put e.Path b (openB (Arr.get a b) e.Leaf).fst) e.Has e.Out e.Behind, ()), ())) else none else none else some (Sum.inr (Sum.inr (((), (), (), ()), (c, d, e, ()), ())))
/-- coterie/recovery.Take -/
def g_recovery_Take : Member × Reply × Unit → Option (Member × Int × Unit)
  | (a, b, _) => bif !decide (fitsP a b = 0) then some (a, fitsP a b, ()) else bif !decide ((N.follow (Arr.put (Arr.put (Arr.put (Vector.replicate 3 (St.zero St.key)) 0 a.Leaf) 1 a.Leaf) 2 a.Leaf) (IntKind.wrap IntKind.i64 (b.Epoch - a.Epoch))).snd = 0) then some (a, (N.follow (Arr.put (Arr.put (Arr.put (Vector.replicate 3 (St.zero St.key)) 0 a.Leaf) 1 a.Leaf) 2 a.Leaf) (IntKind.wrap IntKind.i64 (b.Epoch - a.Epoch))).snd, ()) else Option.bind (lfp g_recovery_Take_r1 (((), (), (), b.Path, 0, ()), (a, St.zero St.member, Member.mk a.Who a.Slot b.Epoch (Arr.get (N.follow (Arr.put (Arr.put (Arr.put (Vector.replicate 3 (St.zero St.key)) 0 a.Leaf) 1 a.Leaf) 2 a.Leaf) (IntKind.wrap IntKind.i64 (b.Epoch - a.Epoch))).fst 0) (Vector.replicate 3 (St.zero St.key)) true false 0, ()), ())) fun z => Sum.elim (fun x => some (x.snd.fst.fst, x.fst.snd.fst, ())) (fun z => bif decide (z.snd.fst.snd.snd.fst.Epoch < z.snd.fst.fst.Behind) then some (Member.mk z.snd.fst.snd.snd.fst.Who z.snd.fst.snd.snd.fst.Slot z.snd.fst.snd.snd.fst.Epoch z.snd.fst.snd.snd.fst.Leaf z.snd.fst.snd.snd.fst.Path z.snd.fst.snd.snd.fst.Has z.snd.fst.snd.snd.fst.Out z.snd.fst.fst.Behind, 0, ()) else some (z.snd.fst.snd.snd.fst, 0, ())) z
/-- coterie/coterieref16.Needs -/
def g_ref16_Needs : Member × Unit → Option (Bool × Unit)
  | (a, _) => bif decide (kind a = 2) then some (true, ()) else bif decide (kind a = 3) then some (!decide (a.Behind = 0), ()) else some (false, ())
/-- coterie/coterieref16.Ask -/
def g_ref16_Ask : Member × Unit → Option (Request × Int × Unit)
  | (a, _) => bif decide (kind a = 1) then some (Request.mk 0 0, 20, ()) else bif decide (kind a = 2) then some (Request.mk a.Who a.Epoch, 0, ()) else bif decide (kind a = 3) then some (Request.mk a.Who a.Epoch, 0, ()) else some (Request.mk 0 0, 30, ())
def g_ref16_Answer_r1 : (Unit × Unit × Unit × Int × Unit) × (Reply × Member × Reply × Unit) × Unit → Option (((Unit × Unit × Unit × Int × Unit) × (Reply × Member × Reply × Unit) × Unit) ⊕ ((Unit × Unit × Unit) × (Reply × Reply × Unit) × Unit))
  | ((_, _, _, a, _), (b, c, d, _), _) => bif decide (a < 3) then bif decide (0 ≤ a) && decide (a < 3) then bif decide (0 ≤ a) && decide (a < 3) then some (Sum.inl (((), (), (), IntKind.wrap IntKind.i64 (a + 1), ()), (b, c, Reply.mk d.Who d.Slot d.Epoch (Arr.put d.Path a (Box.mk c.Leaf (Arr.get c.Path a))), ()), ())) else none else none else some (Sum.inr (((), (), ()), (b, d, ()), ()))
/-- coterie/coterieref16.Answer -/
def g_ref16_Answer : Tree × Request × Unit → Option (Reply × Int × Unit)
  | (a, b, _) => bif !decide (chkT a = 0) then some (Reply.mk 0 0 0 (Vector.replicate 3 (St.zero St.box)), 31, ()) else bif decide (b.Who < 0) then some (Reply.mk 0 0 0 (Vector.replicate 3 (St.zero St.box)), 14, ()) else bif decide (256 ≤ b.Who) then some (Reply.mk 0 0 0 (Vector.replicate 3 (St.zero St.box)), 14, ()) else bif !decide ((stand a b.Who).snd = 0) then some (Reply.mk 0 0 0 (Vector.replicate 3 (St.zero St.box)), 16, ()) else bif decide (b.Epoch < 1) then some (Reply.mk 0 0 0 (Vector.replicate 3 (St.zero St.box)), 32, ()) else bif decide (a.Epoch < b.Epoch) then some (Reply.mk 0 0 0 (Vector.replicate 3 (St.zero St.box)), 32, ()) else Option.bind (lfp g_ref16_Answer_r1 (((), (), (), 0, ()), (St.zero St.reply, (stand a b.Who).fst, Reply.mk (stand a b.Who).fst.Who (stand a b.Who).fst.Slot a.Epoch (Vector.replicate 3 (St.zero St.box)), ()), ())) fun z => some (z.snd.fst.snd.fst, 0, ())
def g_ref16_Take_r1 : (Unit × Unit × Unit × Unit × Unit × Int × Unit) × (Member × Reply × Member × Member × Key × Unit) × Unit → Option (((Unit × Unit × Unit × Unit × Unit × Int × Unit) × (Member × Reply × Member × Member × Key × Unit) × Unit) ⊕ ((Unit × Int × Unit) × (Member × Unit) × Unit ⊕ (Unit × Unit × Unit) × (Member × Member × Unit) × Unit))
  | ((_, _, _, _, _, a, _), (b, c, d, e, f, _), _) => bif decide (a < 3) then bif decide (0 ≤ a) && decide (a < 3) then bif !decide ((openB (Arr.get c.Path a) f).snd = 0) then some (Sum.inr (Sum.inl (((), 5, ()), (b, ()), ()))) else bif decide (0 ≤ a) && decide (a < 3) then some (Sum.inl (((), (), (), (), (), IntKind.wrap IntKind.i64 (a + 1), ()), (b, c, d, Member.mk e.Who e.Slot e.Epoch e.Leaf (Arr.put e.Path a (openB (Arr.get c.Path a) f).fst) e.Has e.Out e.Behind, f, ()), ())) else none else none else some (Sum.inr (Sum.inr (((), (), ()), (d, e, ()), ())))
/-- coterie/coterieref16.Take -/
def g_ref16_Take : Member × Reply × Unit → Option (Member × Int × Unit)
  | (a, b, _) => bif decide (kind a < 1) then some (a, 30, ()) else bif decide (kind a = 1) then some (a, 20, ()) else bif !goodReply b then some (a, 13, ()) else bif !decide (b.Who = a.Who) then some (a, 24, ()) else bif !decide (b.Slot = a.Slot) then some (a, 24, ()) else bif decide (b.Epoch < a.Epoch) then some (a, 21, ()) else bif decide (b.Epoch = a.Epoch) then bif a.Has then some (a, 21, ()) else bif !decide ((N.ahead a.Leaf (IntKind.wrap IntKind.i64 (b.Epoch - a.Epoch))).snd = 0) then some (a, 4, ()) else Option.bind (lfp g_ref16_Take_r1 (((), (), (), (), (), 0, ()), (a, b, St.zero St.member, Member.mk a.Who a.Slot b.Epoch (N.ahead a.Leaf (IntKind.wrap IntKind.i64 (b.Epoch - a.Epoch))).fst a.Path true a.Out a.Behind, (N.ahead a.Leaf (IntKind.wrap IntKind.i64 (b.Epoch - a.Epoch))).fst, ()), ())) fun z => Sum.elim (fun x => some (x.snd.fst.fst, x.fst.snd.fst, ())) (fun z => some (calm z.snd.fst.snd.fst, 0, ())) z else bif !decide ((N.ahead a.Leaf (IntKind.wrap IntKind.i64 (b.Epoch - a.Epoch))).snd = 0) then some (a, 4, ()) else Option.bind (lfp g_ref16_Take_r1 (((), (), (), (), (), 0, ()), (a, b, St.zero St.member, Member.mk a.Who a.Slot b.Epoch (N.ahead a.Leaf (IntKind.wrap IntKind.i64 (b.Epoch - a.Epoch))).fst a.Path true a.Out a.Behind, (N.ahead a.Leaf (IntKind.wrap IntKind.i64 (b.Epoch - a.Epoch))).fst, ()), ())) fun z => Sum.elim (fun x => some (x.snd.fst.fst, x.fst.snd.fst, ())) (fun z => some (calm z.snd.fst.snd.fst, 0, ())) z
def g_law16_three_r1 : (Int × Unit × Unit × Int × Unit) × (Tree × Tree × Unit) × Unit → Option (((Int × Unit × Unit × Int × Unit) × (Tree × Tree × Unit) × Unit) ⊕ ((Unit × Unit × Unit) × (Tree × Tree × Unit) × Unit))
  | ((a, _, _, b, _), (c, d, _), _) => bif decide (b < a) then some (Sum.inl ((a, (), (), IntKind.wrap IntKind.i64 (b + 1), ()), (c, (nextR d (Batch.mk [] [])).fst, ()), ())) else some (Sum.inr (((), (), ()), (c, d, ()), ()))
/-- coterie/coterielaw16.three -/
def g_law16_three : Int × Unit → Option (Tree × Unit)
  | (a, _) => Option.bind (lfp g_law16_three_r1 ((a, (), (), 0, ()), (St.zero St.tree, (nextR startT (Batch.mk [] [1, 2, 3])).fst, ()), ())) fun z => some (z.snd.fst.snd.fst, ())
/-- coterie/coterielaw16.lives -/
def g_law16_lives : Unit → Option (Bool × Unit)
  | _ => some (true, ())
/-- coterie/coterielaw16.RecoveryAsks -/
def g_law16_RecoveryAsks : Member × Unit → Option (Bool × Unit)
  | (a, _) => bif !decide (needsM a = needsM a) then some (false, ()) else bif decide ((askM a).fst = (askM a).fst) then some (decide ((askM a).snd = (askM a).snd), ()) else some (false, ())
/-- coterie/coterielaw16.RecoveryAnswers -/
def g_law16_RecoveryAnswers : Tree × Request × Unit → Option (Bool × Unit)
  | (a, b, _) => bif decide ((answerT a b).fst = (answerT a b).fst) then some (decide ((answerT a b).snd = (answerT a b).snd), ()) else some (false, ())
/-- coterie/coterielaw16.RecoveryTakes -/
def g_law16_RecoveryTakes : Member × Reply × Unit → Option (Bool × Unit)
  | (a, b, _) => bif !decide ((takeM a b).fst = (takeM a b).fst) then some (false, ()) else bif !decide ((takeM a b).snd = (takeM a b).snd) then some (false, ()) else bif decide (0 ≤ kind a) then bif decide (kind (takeM a b).fst < 0) then some (false, ()) else bif decide ((takeM a b).snd = 0) then some (true, ()) else some (decide ((takeM a b).fst = a), ()) else bif decide ((takeM a b).snd = 0) then some (true, ()) else some (decide ((takeM a b).fst = a), ())
def g_law16_RecoveryBrings_r1 : (Unit × Unit × Unit × List Batch × Int × Int × Unit) × (Lag × Member × Tree × Unit) × Unit → Option (((Unit × Unit × Unit × List Batch × Int × Int × Unit) × (Lag × Member × Tree × Unit) × Unit) ⊕ ((Unit × Unit × Unit × Unit) × (Lag × Member × Tree × Unit) × Unit))
  | ((_, _, _, a, b, c, _), (d, e, f, _), _) => bif decide (c < b) then bif decide (0 ≤ c) && decide (c < (↑(List.length a) : Int)) then bif decide ((nextR f (lat a c)).snd.snd = 0) then some (Sum.inl (((), (), (), a, b, IntKind.wrap IntKind.i64 (c + 1), ()), (d, e, (nextR f (lat a c)).fst, ()), ())) else some (Sum.inl (((), (), (), a, b, IntKind.wrap IntKind.i64 (c + 1), ()), (d, e, f, ()), ())) else none else some (Sum.inr (((), (), (), ()), (d, e, f, ()), ()))
/-- coterie/coterielaw16.RecoveryBrings -/
def g_law16_RecoveryBrings : Lag × Unit → Option (Bool × Unit)
  | (a, _) => bif !decide ((stand a.Tree a.Who).snd = 0) then some (true, ()) else Option.bind (lfp g_law16_RecoveryBrings_r1 (((), (), (), a.Script, (↑(List.length a.Script) : Int), 0, ()), (a, (stand a.Tree a.Who).fst, a.Tree, ()), ())) fun z => bif z.snd.fst.fst.Bare then bif decide (z.snd.fst.snd.fst.Epoch < z.snd.fst.fst.Behind) then bif decide (z.snd.fst.fst.Behind ≤ 200) then bif !decide ((askM (Member.mk z.snd.fst.snd.fst.Who z.snd.fst.snd.fst.Slot z.snd.fst.snd.fst.Epoch z.snd.fst.snd.fst.Leaf (Vector.replicate 3 (St.zero St.key)) false z.snd.fst.snd.fst.Out z.snd.fst.fst.Behind)).snd = 0) then some (false, ()) else bif decide (0 ≤ z.snd.fst.snd.fst.Slot) && decide (z.snd.fst.snd.fst.Slot < 64) then bif decide (0 ≤ z.snd.fst.snd.fst.Slot) && decide (z.snd.fst.snd.fst.Slot < 64) then bif !decide (Arr.get z.snd.fst.snd.snd.fst.Roster z.snd.fst.snd.fst.Slot = Arr.get z.snd.fst.fst.Tree.Roster z.snd.fst.snd.fst.Slot) then bif !decide ((answerT z.snd.fst.snd.snd.fst (askM (Member.mk z.snd.fst.snd.fst.Who z.snd.fst.snd.fst.Slot z.snd.fst.snd.fst.Epoch z.snd.fst.snd.fst.Leaf (Vector.replicate 3 (St.zero St.key)) false z.snd.fst.snd.fst.Out z.snd.fst.fst.Behind)).fst).snd = 0) then some (true, ()) else bif !decide ((answerT z.snd.fst.snd.snd.fst (askM (Member.mk z.snd.fst.snd.fst.Who z.snd.fst.snd.fst.Slot z.snd.fst.snd.fst.Epoch z.snd.fst.snd.fst.Leaf (Vector.replicate 3 (St.zero St.key)) false z.snd.fst.snd.fst.Out z.snd.fst.fst.Behind)).fst).fst.Slot = z.snd.fst.snd.fst.Slot) then some (true, ()) else bif !decide ((answerT z.snd.fst.snd.snd.fst (askM (Member.mk z.snd.fst.snd.fst.Who z.snd.fst.snd.fst.Slot z.snd.fst.snd.fst.Epoch z.snd.fst.snd.fst.Leaf (Vector.replicate 3 (St.zero St.key)) false z.snd.fst.snd.fst.Out z.snd.fst.fst.Behind)).fst).fst.Epoch = z.snd.fst.snd.snd.fst.Epoch) then some (true, ()) else bif decide (0 ≤ z.snd.fst.snd.fst.Slot) && decide (z.snd.fst.snd.fst.Slot < 64) then some (decide ((Arr.get z.snd.fst.snd.snd.fst.Roster z.snd.fst.snd.fst.Slot).Who = z.snd.fst.fst.Who), ()) else none else bif !decide ((answerT z.snd.fst.snd.snd.fst (askM (Member.mk z.snd.fst.snd.fst.Who z.snd.fst.snd.fst.Slot z.snd.fst.snd.fst.Epoch z.snd.fst.snd.fst.Leaf (Vector.replicate 3 (St.zero St.key)) false z.snd.fst.snd.fst.Out z.snd.fst.fst.Behind)).fst).snd = 0) then some (false, ()) else bif !decide ((takeM (Member.mk z.snd.fst.snd.fst.Who z.snd.fst.snd.fst.Slot z.snd.fst.snd.fst.Epoch z.snd.fst.snd.fst.Leaf (Vector.replicate 3 (St.zero St.key)) false z.snd.fst.snd.fst.Out z.snd.fst.fst.Behind) (answerT z.snd.fst.snd.snd.fst (askM (Member.mk z.snd.fst.snd.fst.Who z.snd.fst.snd.fst.Slot z.snd.fst.snd.fst.Epoch z.snd.fst.snd.fst.Leaf (Vector.replicate 3 (St.zero St.key)) false z.snd.fst.snd.fst.Out z.snd.fst.fst.Behind)).fst).fst).snd = 0) then some (false, ()) else bif !decide ((stand z.snd.fst.snd.snd.fst z.snd.fst.fst.Who).snd = 0) then some (false, ()) else bif !decide ((takeM (Member.mk z.snd.fst.snd.fst.Who z.snd.fst.snd.fst.Slot z.snd.fst.snd.fst.Epoch z.snd.fst.snd.fst.Leaf (Vector.replicate 3 (St.zero St.key)) false z.snd.fst.snd.fst.Out z.snd.fst.fst.Behind) (answerT z.snd.fst.snd.snd.fst (askM (Member.mk z.snd.fst.snd.fst.Who z.snd.fst.snd.fst.Slot z.snd.fst.snd.fst.Epoch z.snd.fst.snd.fst.Leaf (Vector.replicate 3 (St.zero St.key)) false z.snd.fst.snd.fst.Out z.snd.fst.fst.Behind)).fst).fst).fst = Member.mk (stand z.snd.fst.snd.snd.fst z.snd.fst.fst.Who).fst.Who (stand z.snd.fst.snd.snd.fst z.snd.fst.fst.Who).fst.Slot (stand z.snd.fst.snd.snd.fst z.snd.fst.fst.Who).fst.Epoch (stand z.snd.fst.snd.snd.fst z.snd.fst.fst.Who).fst.Leaf (stand z.snd.fst.snd.snd.fst z.snd.fst.fst.Who).fst.Path (stand z.snd.fst.snd.snd.fst z.snd.fst.fst.Who).fst.Has (stand z.snd.fst.snd.snd.fst z.snd.fst.fst.Who).fst.Out (takeM (Member.mk z.snd.fst.snd.fst.Who z.snd.fst.snd.fst.Slot z.snd.fst.snd.fst.Epoch z.snd.fst.snd.fst.Leaf (Vector.replicate 3 (St.zero St.key)) false z.snd.fst.snd.fst.Out z.snd.fst.fst.Behind) (answerT z.snd.fst.snd.snd.fst (askM (Member.mk z.snd.fst.snd.fst.Who z.snd.fst.snd.fst.Slot z.snd.fst.snd.fst.Epoch z.snd.fst.snd.fst.Leaf (Vector.replicate 3 (St.zero St.key)) false z.snd.fst.snd.fst.Out z.snd.fst.fst.Behind)).fst).fst).fst.Behind) then some (false, ()) else bif !decide ((takeM (Member.mk z.snd.fst.snd.fst.Who z.snd.fst.snd.fst.Slot z.snd.fst.snd.fst.Epoch z.snd.fst.snd.fst.Leaf (Vector.replicate 3 (St.zero St.key)) false z.snd.fst.snd.fst.Out z.snd.fst.fst.Behind) (answerT z.snd.fst.snd.snd.fst (askM (Member.mk z.snd.fst.snd.fst.Who z.snd.fst.snd.fst.Slot z.snd.fst.snd.fst.Epoch z.snd.fst.snd.fst.Leaf (Vector.replicate 3 (St.zero St.key)) false z.snd.fst.snd.fst.Out z.snd.fst.fst.Behind)).fst).fst).fst.Behind = 0) then bif !decide ((takeM (Member.mk z.snd.fst.snd.fst.Who z.snd.fst.snd.fst.Slot z.snd.fst.snd.fst.Epoch z.snd.fst.snd.fst.Leaf (Vector.replicate 3 (St.zero St.key)) false z.snd.fst.snd.fst.Out z.snd.fst.fst.Behind) (answerT z.snd.fst.snd.snd.fst (askM (Member.mk z.snd.fst.snd.fst.Who z.snd.fst.snd.fst.Slot z.snd.fst.snd.fst.Epoch z.snd.fst.snd.fst.Leaf (Vector.replicate 3 (St.zero St.key)) false z.snd.fst.snd.fst.Out z.snd.fst.fst.Behind)).fst).fst).fst.Behind = z.snd.fst.fst.Behind) then some (false, ()) else bif decide ((takeM (Member.mk z.snd.fst.snd.fst.Who z.snd.fst.snd.fst.Slot z.snd.fst.snd.fst.Epoch z.snd.fst.snd.fst.Leaf (Vector.replicate 3 (St.zero St.key)) false z.snd.fst.snd.fst.Out z.snd.fst.fst.Behind) (answerT z.snd.fst.snd.snd.fst (askM (Member.mk z.snd.fst.snd.fst.Who z.snd.fst.snd.fst.Slot z.snd.fst.snd.fst.Epoch z.snd.fst.snd.fst.Leaf (Vector.replicate 3 (St.zero St.key)) false z.snd.fst.snd.fst.Out z.snd.fst.fst.Behind)).fst).fst).fst.Behind ≤ (takeM (Member.mk z.snd.fst.snd.fst.Who z.snd.fst.snd.fst.Slot z.snd.fst.snd.fst.Epoch z.snd.fst.snd.fst.Leaf (Vector.replicate 3 (St.zero St.key)) false z.snd.fst.snd.fst.Out z.snd.fst.fst.Behind) (answerT z.snd.fst.snd.snd.fst (askM (Member.mk z.snd.fst.snd.fst.Who z.snd.fst.snd.fst.Slot z.snd.fst.snd.fst.Epoch z.snd.fst.snd.fst.Leaf (Vector.replicate 3 (St.zero St.key)) false z.snd.fst.snd.fst.Out z.snd.fst.fst.Behind)).fst).fst).fst.Epoch) then some (false, ()) else bif decide ((takeM (takeM (Member.mk z.snd.fst.snd.fst.Who z.snd.fst.snd.fst.Slot z.snd.fst.snd.fst.Epoch z.snd.fst.snd.fst.Leaf (Vector.replicate 3 (St.zero St.key)) false z.snd.fst.snd.fst.Out z.snd.fst.fst.Behind) (answerT z.snd.fst.snd.snd.fst (askM (Member.mk z.snd.fst.snd.fst.Who z.snd.fst.snd.fst.Slot z.snd.fst.snd.fst.Epoch z.snd.fst.snd.fst.Leaf (Vector.replicate 3 (St.zero St.key)) false z.snd.fst.snd.fst.Out z.snd.fst.fst.Behind)).fst).fst).fst (answerT z.snd.fst.snd.snd.fst (askM (Member.mk z.snd.fst.snd.fst.Who z.snd.fst.snd.fst.Slot z.snd.fst.snd.fst.Epoch z.snd.fst.snd.fst.Leaf (Vector.replicate 3 (St.zero St.key)) false z.snd.fst.snd.fst.Out z.snd.fst.fst.Behind)).fst).fst).snd = 21) then some (decide ((takeM (takeM (Member.mk z.snd.fst.snd.fst.Who z.snd.fst.snd.fst.Slot z.snd.fst.snd.fst.Epoch z.snd.fst.snd.fst.Leaf (Vector.replicate 3 (St.zero St.key)) false z.snd.fst.snd.fst.Out z.snd.fst.fst.Behind) (answerT z.snd.fst.snd.snd.fst (askM (Member.mk z.snd.fst.snd.fst.Who z.snd.fst.snd.fst.Slot z.snd.fst.snd.fst.Epoch z.snd.fst.snd.fst.Leaf (Vector.replicate 3 (St.zero St.key)) false z.snd.fst.snd.fst.Out z.snd.fst.fst.Behind)).fst).fst).fst (answerT z.snd.fst.snd.snd.fst (askM (Member.mk z.snd.fst.snd.fst.Who z.snd.fst.snd.fst.Slot z.snd.fst.snd.fst.Epoch z.snd.fst.snd.fst.Leaf (Vector.replicate 3 (St.zero St.key)) false z.snd.fst.snd.fst.Out z.snd.fst.fst.Behind)).fst).fst).fst = (takeM (Member.mk z.snd.fst.snd.fst.Who z.snd.fst.snd.fst.Slot z.snd.fst.snd.fst.Epoch z.snd.fst.snd.fst.Leaf (Vector.replicate 3 (St.zero St.key)) false z.snd.fst.snd.fst.Out z.snd.fst.fst.Behind) (answerT z.snd.fst.snd.snd.fst (askM (Member.mk z.snd.fst.snd.fst.Who z.snd.fst.snd.fst.Slot z.snd.fst.snd.fst.Epoch z.snd.fst.snd.fst.Leaf (Vector.replicate 3 (St.zero St.key)) false z.snd.fst.snd.fst.Out z.snd.fst.fst.Behind)).fst).fst).fst), ()) else some (false, ()) else bif decide ((takeM (takeM (Member.mk z.snd.fst.snd.fst.Who z.snd.fst.snd.fst.Slot z.snd.fst.snd.fst.Epoch z.snd.fst.snd.fst.Leaf (Vector.replicate 3 (St.zero St.key)) false z.snd.fst.snd.fst.Out z.snd.fst.fst.Behind) (answerT z.snd.fst.snd.snd.fst (askM (Member.mk z.snd.fst.snd.fst.Who z.snd.fst.snd.fst.Slot z.snd.fst.snd.fst.Epoch z.snd.fst.snd.fst.Leaf (Vector.replicate 3 (St.zero St.key)) false z.snd.fst.snd.fst.Out z.snd.fst.fst.Behind)).fst).fst).fst (answerT z.snd.fst.snd.snd.fst (askM (Member.mk z.snd.fst.snd.fst.Who z.snd.fst.snd.fst.Slot z.snd.fst.snd.fst.Epoch z.snd.fst.snd.fst.Leaf (Vector.replicate 3 (St.zero St.key)) false z.snd.fst.snd.fst.Out z.snd.fst.fst.Behind)).fst).fst).snd = 21) then some (decide ((takeM (takeM (Member.mk z.snd.fst.snd.fst.Who z.snd.fst.snd.fst.Slot z.snd.fst.snd.fst.Epoch z.snd.fst.snd.fst.Leaf (Vector.replicate 3 (St.zero St.key)) false z.snd.fst.snd.fst.Out z.snd.fst.fst.Behind) (answerT z.snd.fst.snd.snd.fst (askM (Member.mk z.snd.fst.snd.fst.Who z.snd.fst.snd.fst.Slot z.snd.fst.snd.fst.Epoch z.snd.fst.snd.fst.Leaf (Vector.replicate 3 (St.zero St.key)) false z.snd.fst.snd.fst.Out z.snd.fst.fst.Behind)).fst).fst).fst (answerT z.snd.fst.snd.snd.fst (askM (Member.mk z.snd.fst.snd.fst.Who z.snd.fst.snd.fst.Slot z.snd.fst.snd.fst.Epoch z.snd.fst.snd.fst.Leaf (Vector.replicate 3 (St.zero St.key)) false z.snd.fst.snd.fst.Out z.snd.fst.fst.Behind)).fst).fst).fst = (takeM (Member.mk z.snd.fst.snd.fst.Who z.snd.fst.snd.fst.Slot z.snd.fst.snd.fst.Epoch z.snd.fst.snd.fst.Leaf (Vector.replicate 3 (St.zero St.key)) false z.snd.fst.snd.fst.Out z.snd.fst.fst.Behind) (answerT z.snd.fst.snd.snd.fst (askM (Member.mk z.snd.fst.snd.fst.Who z.snd.fst.snd.fst.Slot z.snd.fst.snd.fst.Epoch z.snd.fst.snd.fst.Leaf (Vector.replicate 3 (St.zero St.key)) false z.snd.fst.snd.fst.Out z.snd.fst.fst.Behind)).fst).fst).fst), ()) else some (false, ()) else none else none else bif !decide ((askM (Member.mk z.snd.fst.snd.fst.Who z.snd.fst.snd.fst.Slot z.snd.fst.snd.fst.Epoch z.snd.fst.snd.fst.Leaf (Vector.replicate 3 (St.zero St.key)) false z.snd.fst.snd.fst.Out z.snd.fst.snd.fst.Behind)).snd = 0) then some (false, ()) else bif decide (0 ≤ z.snd.fst.snd.fst.Slot) && decide (z.snd.fst.snd.fst.Slot < 64) then bif decide (0 ≤ z.snd.fst.snd.fst.Slot) && decide (z.snd.fst.snd.fst.Slot < 64) then bif !decide (Arr.get z.snd.fst.snd.snd.fst.Roster z.snd.fst.snd.fst.Slot = Arr.get z.snd.fst.fst.Tree.Roster z.snd.fst.snd.fst.Slot) then bif !decide ((answerT z.snd.fst.snd.snd.fst (askM (Member.mk z.snd.fst.snd.fst.Who z.snd.fst.snd.fst.Slot z.snd.fst.snd.fst.Epoch z.snd.fst.snd.fst.Leaf (Vector.replicate 3 (St.zero St.key)) false z.snd.fst.snd.fst.Out z.snd.fst.snd.fst.Behind)).fst).snd = 0) then some (true, ()) else bif !decide ((answerT z.snd.fst.snd.snd.fst (askM (Member.mk z.snd.fst.snd.fst.Who z.snd.fst.snd.fst.Slot z.snd.fst.snd.fst.Epoch z.snd.fst.snd.fst.Leaf (Vector.replicate 3 (St.zero St.key)) false z.snd.fst.snd.fst.Out z.snd.fst.snd.fst.Behind)).fst).fst.Slot = z.snd.fst.snd.fst.Slot) then some (true, ()) else bif !decide ((answerT z.snd.fst.snd.snd.fst (askM (Member.mk z.snd.fst.snd.fst.Who z.snd.fst.snd.fst.Slot z.snd.fst.snd.fst.Epoch z.snd.fst.snd.fst.Leaf (Vector.replicate 3 (St.zero St.key)) false z.snd.fst.snd.fst.Out z.snd.fst.snd.fst.Behind)).fst).fst.Epoch = z.snd.fst.snd.snd.fst.Epoch) then some (true, ()) else bif decide (0 ≤ z.snd.fst.snd.fst.Slot) && decide (z.snd.fst.snd.fst.Slot < 64) then some (decide ((Arr.get z.snd.fst.snd.snd.fst.Roster z.snd.fst.snd.fst.Slot).Who = z.snd.fst.fst.Who), ()) else none else bif !decide ((answerT z.snd.fst.snd.snd.fst (askM (Member.mk z.snd.fst.snd.fst.Who z.snd.fst.snd.fst.Slot z.snd.fst.snd.fst.Epoch z.snd.fst.snd.fst.Leaf (Vector.replicate 3 (St.zero St.key)) false z.snd.fst.snd.fst.Out z.snd.fst.snd.fst.Behind)).fst).snd = 0) then some (false, ()) else bif !decide ((takeM (Member.mk z.snd.fst.snd.fst.Who z.snd.fst.snd.fst.Slot z.snd.fst.snd.fst.Epoch z.snd.fst.snd.fst.Leaf (Vector.replicate 3 (St.zero St.key)) false z.snd.fst.snd.fst.Out z.snd.fst.snd.fst.Behind) (answerT z.snd.fst.snd.snd.fst (askM (Member.mk z.snd.fst.snd.fst.Who z.snd.fst.snd.fst.Slot z.snd.fst.snd.fst.Epoch z.snd.fst.snd.fst.Leaf (Vector.replicate 3 (St.zero St.key)) false z.snd.fst.snd.fst.Out z.snd.fst.snd.fst.Behind)).fst).fst).snd = 0) then some (false, ()) else bif !decide ((stand z.snd.fst.snd.snd.fst z.snd.fst.fst.Who).snd = 0) then some (false, ()) else bif !decide ((takeM (Member.mk z.snd.fst.snd.fst.Who z.snd.fst.snd.fst.Slot z.snd.fst.snd.fst.Epoch z.snd.fst.snd.fst.Leaf (Vector.replicate 3 (St.zero St.key)) false z.snd.fst.snd.fst.Out z.snd.fst.snd.fst.Behind) (answerT z.snd.fst.snd.snd.fst (askM (Member.mk z.snd.fst.snd.fst.Who z.snd.fst.snd.fst.Slot z.snd.fst.snd.fst.Epoch z.snd.fst.snd.fst.Leaf (Vector.replicate 3 (St.zero St.key)) false z.snd.fst.snd.fst.Out z.snd.fst.snd.fst.Behind)).fst).fst).fst = Member.mk (stand z.snd.fst.snd.snd.fst z.snd.fst.fst.Who).fst.Who (stand z.snd.fst.snd.snd.fst z.snd.fst.fst.Who).fst.Slot (stand z.snd.fst.snd.snd.fst z.snd.fst.fst.Who).fst.Epoch (stand z.snd.fst.snd.snd.fst z.snd.fst.fst.Who).fst.Leaf (stand z.snd.fst.snd.snd.fst z.snd.fst.fst.Who).fst.Path (stand z.snd.fst.snd.snd.fst z.snd.fst.fst.Who).fst.Has (stand z.snd.fst.snd.snd.fst z.snd.fst.fst.Who).fst.Out (takeM (Member.mk z.snd.fst.snd.fst.Who z.snd.fst.snd.fst.Slot z.snd.fst.snd.fst.Epoch z.snd.fst.snd.fst.Leaf (Vector.replicate 3 (St.zero St.key)) false z.snd.fst.snd.fst.Out z.snd.fst.snd.fst.Behind) (answerT z.snd.fst.snd.snd.fst (askM (Member.mk z.snd.fst.snd.fst.Who z.snd.fst.snd.fst.Slot z.snd.fst.snd.fst.Epoch z.snd.fst.snd.fst.Leaf (Vector.replicate 3 (St.zero St.key)) false z.snd.fst.snd.fst.Out z.snd.fst.snd.fst.Behind)).fst).fst).fst.Behind) then some (false, ()) else bif !decide ((takeM (Member.mk z.snd.fst.snd.fst.Who z.snd.fst.snd.fst.Slot z.snd.fst.snd.fst.Epoch z.snd.fst.snd.fst.Leaf (Vector.replicate 3 (St.zero St.key)) false z.snd.fst.snd.fst.Out z.snd.fst.snd.fst.Behind) (answerT z.snd.fst.snd.snd.fst (askM (Member.mk z.snd.fst.snd.fst.Who z.snd.fst.snd.fst.Slot z.snd.fst.snd.fst.Epoch z.snd.fst.snd.fst.Leaf (Vector.replicate 3 (St.zero St.key)) false z.snd.fst.snd.fst.Out z.snd.fst.snd.fst.Behind)).fst).fst).fst.Behind = 0) then bif !decide ((takeM (Member.mk z.snd.fst.snd.fst.Who z.snd.fst.snd.fst.Slot z.snd.fst.snd.fst.Epoch z.snd.fst.snd.fst.Leaf (Vector.replicate 3 (St.zero St.key)) false z.snd.fst.snd.fst.Out z.snd.fst.snd.fst.Behind) (answerT z.snd.fst.snd.snd.fst (askM (Member.mk z.snd.fst.snd.fst.Who z.snd.fst.snd.fst.Slot z.snd.fst.snd.fst.Epoch z.snd.fst.snd.fst.Leaf (Vector.replicate 3 (St.zero St.key)) false z.snd.fst.snd.fst.Out z.snd.fst.snd.fst.Behind)).fst).fst).fst.Behind = z.snd.fst.snd.fst.Behind) then some (false, ()) else bif decide ((takeM (Member.mk z.snd.fst.snd.fst.Who z.snd.fst.snd.fst.Slot z.snd.fst.snd.fst.Epoch z.snd.fst.snd.fst.Leaf (Vector.replicate 3 (St.zero St.key)) false z.snd.fst.snd.fst.Out z.snd.fst.snd.fst.Behind) (answerT z.snd.fst.snd.snd.fst (askM (Member.mk z.snd.fst.snd.fst.Who z.snd.fst.snd.fst.Slot z.snd.fst.snd.fst.Epoch z.snd.fst.snd.fst.Leaf (Vector.replicate 3 (St.zero St.key)) false z.snd.fst.snd.fst.Out z.snd.fst.snd.fst.Behind)).fst).fst).fst.Behind ≤ (takeM (Member.mk z.snd.fst.snd.fst.Who z.snd.fst.snd.fst.Slot z.snd.fst.snd.fst.Epoch z.snd.fst.snd.fst.Leaf (Vector.replicate 3 (St.zero St.key)) false z.snd.fst.snd.fst.Out z.snd.fst.snd.fst.Behind) (answerT z.snd.fst.snd.snd.fst (askM (Member.mk z.snd.fst.snd.fst.Who z.snd.fst.snd.fst.Slot z.snd.fst.snd.fst.Epoch z.snd.fst.snd.fst.Leaf (Vector.replicate 3 (St.zero St.key)) false z.snd.fst.snd.fst.Out z.snd.fst.snd.fst.Behind)).fst).fst).fst.Epoch) then some (false, ()) else bif decide ((takeM (takeM (Member.mk z.snd.fst.snd.fst.Who z.snd.fst.snd.fst.Slot z.snd.fst.snd.fst.Epoch z.snd.fst.snd.fst.Leaf (Vector.replicate 3 (St.zero St.key)) false z.snd.fst.snd.fst.Out z.snd.fst.snd.fst.Behind) (answerT z.snd.fst.snd.snd.fst (askM (Member.mk z.snd.fst.snd.fst.Who z.snd.fst.snd.fst.Slot z.snd.fst.snd.fst.Epoch z.snd.fst.snd.fst.Leaf (Vector.replicate 3 (St.zero St.key)) false z.snd.fst.snd.fst.Out z.snd.fst.snd.fst.Behind)).fst).fst).fst (answerT z.snd.fst.snd.snd.fst (askM (Member.mk z.snd.fst.snd.fst.Who z.snd.fst.snd.fst.Slot z.snd.fst.snd.fst.Epoch z.snd.fst.snd.fst.Leaf (Vector.replicate 3 (St.zero St.key)) false z.snd.fst.snd.fst.Out z.snd.fst.snd.fst.Behind)).fst).fst).snd = 21) then some (decide ((takeM (takeM (Member.mk z.snd.fst.snd.fst.Who z.snd.fst.snd.fst.Slot z.snd.fst.snd.fst.Epoch z.snd.fst.snd.fst.Leaf (Vector.replicate 3 (St.zero St.key)) false z.snd.fst.snd.fst.Out z.snd.fst.snd.fst.Behind) (answerT z.snd.fst.snd.snd.fst (askM (Member.mk z.snd.fst.snd.fst.Who z.snd.fst.snd.fst.Slot z.snd.fst.snd.fst.Epoch z.snd.fst.snd.fst.Leaf (Vector.replicate 3 (St.zero St.key)) false z.snd.fst.snd.fst.Out z.snd.fst.snd.fst.Behind)).fst).fst).fst (answerT z.snd.fst.snd.snd.fst (askM (Member.mk z.snd.fst.snd.fst.Who z.snd.fst.snd.fst.Slot z.snd.fst.snd.fst.Epoch z.snd.fst.snd.fst.Leaf (Vector.replicate 3 (St.zero St.key)) false z.snd.fst.snd.fst.Out z.snd.fst.snd.fst.Behind)).fst).fst).fst = (takeM (Member.mk z.snd.fst.snd.fst.Who z.snd.fst.snd.fst.Slot z.snd.fst.snd.fst.Epoch z.snd.fst.snd.fst.Leaf (Vector.replicate 3 (St.zero St.key)) false z.snd.fst.snd.fst.Out z.snd.fst.snd.fst.Behind) (answerT z.snd.fst.snd.snd.fst (askM (Member.mk z.snd.fst.snd.fst.Who z.snd.fst.snd.fst.Slot z.snd.fst.snd.fst.Epoch z.snd.fst.snd.fst.Leaf (Vector.replicate 3 (St.zero St.key)) false z.snd.fst.snd.fst.Out z.snd.fst.snd.fst.Behind)).fst).fst).fst), ()) else some (false, ()) else bif decide ((takeM (takeM (Member.mk z.snd.fst.snd.fst.Who z.snd.fst.snd.fst.Slot z.snd.fst.snd.fst.Epoch z.snd.fst.snd.fst.Leaf (Vector.replicate 3 (St.zero St.key)) false z.snd.fst.snd.fst.Out z.snd.fst.snd.fst.Behind) (answerT z.snd.fst.snd.snd.fst (askM (Member.mk z.snd.fst.snd.fst.Who z.snd.fst.snd.fst.Slot z.snd.fst.snd.fst.Epoch z.snd.fst.snd.fst.Leaf (Vector.replicate 3 (St.zero St.key)) false z.snd.fst.snd.fst.Out z.snd.fst.snd.fst.Behind)).fst).fst).fst (answerT z.snd.fst.snd.snd.fst (askM (Member.mk z.snd.fst.snd.fst.Who z.snd.fst.snd.fst.Slot z.snd.fst.snd.fst.Epoch z.snd.fst.snd.fst.Leaf (Vector.replicate 3 (St.zero St.key)) false z.snd.fst.snd.fst.Out z.snd.fst.snd.fst.Behind)).fst).fst).snd = 21) then some (decide ((takeM (takeM (Member.mk z.snd.fst.snd.fst.Who z.snd.fst.snd.fst.Slot z.snd.fst.snd.fst.Epoch z.snd.fst.snd.fst.Leaf (Vector.replicate 3 (St.zero St.key)) false z.snd.fst.snd.fst.Out z.snd.fst.snd.fst.Behind) (answerT z.snd.fst.snd.snd.fst (askM (Member.mk z.snd.fst.snd.fst.Who z.snd.fst.snd.fst.Slot z.snd.fst.snd.fst.Epoch z.snd.fst.snd.fst.Leaf (Vector.replicate 3 (St.zero St.key)) false z.snd.fst.snd.fst.Out z.snd.fst.snd.fst.Behind)).fst).fst).fst (answerT z.snd.fst.snd.snd.fst (askM (Member.mk z.snd.fst.snd.fst.Who z.snd.fst.snd.fst.Slot z.snd.fst.snd.fst.Epoch z.snd.fst.snd.fst.Leaf (Vector.replicate 3 (St.zero St.key)) false z.snd.fst.snd.fst.Out z.snd.fst.snd.fst.Behind)).fst).fst).fst = (takeM (Member.mk z.snd.fst.snd.fst.Who z.snd.fst.snd.fst.Slot z.snd.fst.snd.fst.Epoch z.snd.fst.snd.fst.Leaf (Vector.replicate 3 (St.zero St.key)) false z.snd.fst.snd.fst.Out z.snd.fst.snd.fst.Behind) (answerT z.snd.fst.snd.snd.fst (askM (Member.mk z.snd.fst.snd.fst.Who z.snd.fst.snd.fst.Slot z.snd.fst.snd.fst.Epoch z.snd.fst.snd.fst.Leaf (Vector.replicate 3 (St.zero St.key)) false z.snd.fst.snd.fst.Out z.snd.fst.snd.fst.Behind)).fst).fst).fst), ()) else some (false, ()) else none else none else bif !decide ((askM (Member.mk z.snd.fst.snd.fst.Who z.snd.fst.snd.fst.Slot z.snd.fst.snd.fst.Epoch z.snd.fst.snd.fst.Leaf (Vector.replicate 3 (St.zero St.key)) false z.snd.fst.snd.fst.Out z.snd.fst.snd.fst.Behind)).snd = 0) then some (false, ()) else bif decide (0 ≤ z.snd.fst.snd.fst.Slot) && decide (z.snd.fst.snd.fst.Slot < 64) then bif decide (0 ≤ z.snd.fst.snd.fst.Slot) && decide (z.snd.fst.snd.fst.Slot < 64) then bif !decide (Arr.get z.snd.fst.snd.snd.fst.Roster z.snd.fst.snd.fst.Slot = Arr.get z.snd.fst.fst.Tree.Roster z.snd.fst.snd.fst.Slot) then bif !decide ((answerT z.snd.fst.snd.snd.fst (askM (Member.mk z.snd.fst.snd.fst.Who z.snd.fst.snd.fst.Slot z.snd.fst.snd.fst.Epoch z.snd.fst.snd.fst.Leaf (Vector.replicate 3 (St.zero St.key)) false z.snd.fst.snd.fst.Out z.snd.fst.snd.fst.Behind)).fst).snd = 0) then some (true, ()) else bif !decide ((answerT z.snd.fst.snd.snd.fst (askM (Member.mk z.snd.fst.snd.fst.Who z.snd.fst.snd.fst.Slot z.snd.fst.snd.fst.Epoch z.snd.fst.snd.fst.Leaf (Vector.replicate 3 (St.zero St.key)) false z.snd.fst.snd.fst.Out z.snd.fst.snd.fst.Behind)).fst).fst.Slot = z.snd.fst.snd.fst.Slot) then some (true, ()) else bif !decide ((answerT z.snd.fst.snd.snd.fst (askM (Member.mk z.snd.fst.snd.fst.Who z.snd.fst.snd.fst.Slot z.snd.fst.snd.fst.Epoch z.snd.fst.snd.fst.Leaf (Vector.replicate 3 (St.zero St.key)) false z.snd.fst.snd.fst.Out z.snd.fst.snd.fst.Behind)).fst).fst.Epoch = z.snd.fst.snd.snd.fst.Epoch) then some (true, ()) else bif decide (0 ≤ z.snd.fst.snd.fst.Slot) && decide (z.snd.fst.snd.fst.Slot < 64) then some (decide ((Arr.get z.snd.fst.snd.snd.fst.Roster z.snd.fst.snd.fst.Slot).Who = z.snd.fst.fst.Who), ()) else none else bif !decide ((answerT z.snd.fst.snd.snd.fst (askM (Member.mk z.snd.fst.snd.fst.Who z.snd.fst.snd.fst.Slot z.snd.fst.snd.fst.Epoch z.snd.fst.snd.fst.Leaf (Vector.replicate 3 (St.zero St.key)) false z.snd.fst.snd.fst.Out z.snd.fst.snd.fst.Behind)).fst).snd = 0) then some (false, ()) else bif !decide ((takeM (Member.mk z.snd.fst.snd.fst.Who z.snd.fst.snd.fst.Slot z.snd.fst.snd.fst.Epoch z.snd.fst.snd.fst.Leaf (Vector.replicate 3 (St.zero St.key)) false z.snd.fst.snd.fst.Out z.snd.fst.snd.fst.Behind) (answerT z.snd.fst.snd.snd.fst (askM (Member.mk z.snd.fst.snd.fst.Who z.snd.fst.snd.fst.Slot z.snd.fst.snd.fst.Epoch z.snd.fst.snd.fst.Leaf (Vector.replicate 3 (St.zero St.key)) false z.snd.fst.snd.fst.Out z.snd.fst.snd.fst.Behind)).fst).fst).snd = 0) then some (false, ()) else bif !decide ((stand z.snd.fst.snd.snd.fst z.snd.fst.fst.Who).snd = 0) then some (false, ()) else bif !decide ((takeM (Member.mk z.snd.fst.snd.fst.Who z.snd.fst.snd.fst.Slot z.snd.fst.snd.fst.Epoch z.snd.fst.snd.fst.Leaf (Vector.replicate 3 (St.zero St.key)) false z.snd.fst.snd.fst.Out z.snd.fst.snd.fst.Behind) (answerT z.snd.fst.snd.snd.fst (askM (Member.mk z.snd.fst.snd.fst.Who z.snd.fst.snd.fst.Slot z.snd.fst.snd.fst.Epoch z.snd.fst.snd.fst.Leaf (Vector.replicate 3 (St.zero St.key)) false z.snd.fst.snd.fst.Out z.snd.fst.snd.fst.Behind)).fst).fst).fst = Member.mk (stand z.snd.fst.snd.snd.fst z.snd.fst.fst.Who).fst.Who (stand z.snd.fst.snd.snd.fst z.snd.fst.fst.Who).fst.Slot (stand z.snd.fst.snd.snd.fst z.snd.fst.fst.Who).fst.Epoch (stand z.snd.fst.snd.snd.fst z.snd.fst.fst.Who).fst.Leaf (stand z.snd.fst.snd.snd.fst z.snd.fst.fst.Who).fst.Path (stand z.snd.fst.snd.snd.fst z.snd.fst.fst.Who).fst.Has (stand z.snd.fst.snd.snd.fst z.snd.fst.fst.Who).fst.Out (takeM (Member.mk z.snd.fst.snd.fst.Who z.snd.fst.snd.fst.Slot z.snd.fst.snd.fst.Epoch z.snd.fst.snd.fst.Leaf (Vector.replicate 3 (St.zero St.key)) false z.snd.fst.snd.fst.Out z.snd.fst.snd.fst.Behind) (answerT z.snd.fst.snd.snd.fst (askM (Member.mk z.snd.fst.snd.fst.Who z.snd.fst.snd.fst.Slot z.snd.fst.snd.fst.Epoch z.snd.fst.snd.fst.Leaf (Vector.replicate 3 (St.zero St.key)) false z.snd.fst.snd.fst.Out z.snd.fst.snd.fst.Behind)).fst).fst).fst.Behind) then some (false, ()) else bif !decide ((takeM (Member.mk z.snd.fst.snd.fst.Who z.snd.fst.snd.fst.Slot z.snd.fst.snd.fst.Epoch z.snd.fst.snd.fst.Leaf (Vector.replicate 3 (St.zero St.key)) false z.snd.fst.snd.fst.Out z.snd.fst.snd.fst.Behind) (answerT z.snd.fst.snd.snd.fst (askM (Member.mk z.snd.fst.snd.fst.Who z.snd.fst.snd.fst.Slot z.snd.fst.snd.fst.Epoch z.snd.fst.snd.fst.Leaf (Vector.replicate 3 (St.zero St.key)) false z.snd.fst.snd.fst.Out z.snd.fst.snd.fst.Behind)).fst).fst).fst.Behind = 0) then bif !decide ((takeM (Member.mk z.snd.fst.snd.fst.Who z.snd.fst.snd.fst.Slot z.snd.fst.snd.fst.Epoch z.snd.fst.snd.fst.Leaf (Vector.replicate 3 (St.zero St.key)) false z.snd.fst.snd.fst.Out z.snd.fst.snd.fst.Behind) (answerT z.snd.fst.snd.snd.fst (askM (Member.mk z.snd.fst.snd.fst.Who z.snd.fst.snd.fst.Slot z.snd.fst.snd.fst.Epoch z.snd.fst.snd.fst.Leaf (Vector.replicate 3 (St.zero St.key)) false z.snd.fst.snd.fst.Out z.snd.fst.snd.fst.Behind)).fst).fst).fst.Behind = z.snd.fst.snd.fst.Behind) then some (false, ()) else bif decide ((takeM (Member.mk z.snd.fst.snd.fst.Who z.snd.fst.snd.fst.Slot z.snd.fst.snd.fst.Epoch z.snd.fst.snd.fst.Leaf (Vector.replicate 3 (St.zero St.key)) false z.snd.fst.snd.fst.Out z.snd.fst.snd.fst.Behind) (answerT z.snd.fst.snd.snd.fst (askM (Member.mk z.snd.fst.snd.fst.Who z.snd.fst.snd.fst.Slot z.snd.fst.snd.fst.Epoch z.snd.fst.snd.fst.Leaf (Vector.replicate 3 (St.zero St.key)) false z.snd.fst.snd.fst.Out z.snd.fst.snd.fst.Behind)).fst).fst).fst.Behind ≤ (takeM (Member.mk z.snd.fst.snd.fst.Who z.snd.fst.snd.fst.Slot z.snd.fst.snd.fst.Epoch z.snd.fst.snd.fst.Leaf (Vector.replicate 3 (St.zero St.key)) false z.snd.fst.snd.fst.Out z.snd.fst.snd.fst.Behind) (answerT z.snd.fst.snd.snd.fst (askM (Member.mk z.snd.fst.snd.fst.Who z.snd.fst.snd.fst.Slot z.snd.fst.snd.fst.Epoch z.snd.fst.snd.fst.Leaf (Vector.replicate 3 (St.zero St.key)) false z.snd.fst.snd.fst.Out z.snd.fst.snd.fst.Behind)).fst).fst).fst.Epoch) then some (false, ()) else bif decide ((takeM (takeM (Member.mk z.snd.fst.snd.fst.Who z.snd.fst.snd.fst.Slot z.snd.fst.snd.fst.Epoch z.snd.fst.snd.fst.Leaf (Vector.replicate 3 (St.zero St.key)) false z.snd.fst.snd.fst.Out z.snd.fst.snd.fst.Behind) (answerT z.snd.fst.snd.snd.fst (askM (Member.mk z.snd.fst.snd.fst.Who z.snd.fst.snd.fst.Slot z.snd.fst.snd.fst.Epoch z.snd.fst.snd.fst.Leaf (Vector.replicate 3 (St.zero St.key)) false z.snd.fst.snd.fst.Out z.snd.fst.snd.fst.Behind)).fst).fst).fst (answerT z.snd.fst.snd.snd.fst (askM (Member.mk z.snd.fst.snd.fst.Who z.snd.fst.snd.fst.Slot z.snd.fst.snd.fst.Epoch z.snd.fst.snd.fst.Leaf (Vector.replicate 3 (St.zero St.key)) false z.snd.fst.snd.fst.Out z.snd.fst.snd.fst.Behind)).fst).fst).snd = 21) then some (decide ((takeM (takeM (Member.mk z.snd.fst.snd.fst.Who z.snd.fst.snd.fst.Slot z.snd.fst.snd.fst.Epoch z.snd.fst.snd.fst.Leaf (Vector.replicate 3 (St.zero St.key)) false z.snd.fst.snd.fst.Out z.snd.fst.snd.fst.Behind) (answerT z.snd.fst.snd.snd.fst (askM (Member.mk z.snd.fst.snd.fst.Who z.snd.fst.snd.fst.Slot z.snd.fst.snd.fst.Epoch z.snd.fst.snd.fst.Leaf (Vector.replicate 3 (St.zero St.key)) false z.snd.fst.snd.fst.Out z.snd.fst.snd.fst.Behind)).fst).fst).fst (answerT z.snd.fst.snd.snd.fst (askM (Member.mk z.snd.fst.snd.fst.Who z.snd.fst.snd.fst.Slot z.snd.fst.snd.fst.Epoch z.snd.fst.snd.fst.Leaf (Vector.replicate 3 (St.zero St.key)) false z.snd.fst.snd.fst.Out z.snd.fst.snd.fst.Behind)).fst).fst).fst = (takeM (Member.mk z.snd.fst.snd.fst.Who z.snd.fst.snd.fst.Slot z.snd.fst.snd.fst.Epoch z.snd.fst.snd.fst.Leaf (Vector.replicate 3 (St.zero St.key)) false z.snd.fst.snd.fst.Out z.snd.fst.snd.fst.Behind) (answerT z.snd.fst.snd.snd.fst (askM (Member.mk z.snd.fst.snd.fst.Who z.snd.fst.snd.fst.Slot z.snd.fst.snd.fst.Epoch z.snd.fst.snd.fst.Leaf (Vector.replicate 3 (St.zero St.key)) false z.snd.fst.snd.fst.Out z.snd.fst.snd.fst.Behind)).fst).fst).fst), ()) else some (false, ()) else bif decide ((takeM (takeM (Member.mk z.snd.fst.snd.fst.Who z.snd.fst.snd.fst.Slot z.snd.fst.snd.fst.Epoch z.snd.fst.snd.fst.Leaf (Vector.replicate 3 (St.zero St.key)) false z.snd.fst.snd.fst.Out z.snd.fst.snd.fst.Behind) (answerT z.snd.fst.snd.snd.fst (askM (Member.mk z.snd.fst.snd.fst.Who z.snd.fst.snd.fst.Slot z.snd.fst.snd.fst.Epoch z.snd.fst.snd.fst.Leaf (Vector.replicate 3 (St.zero St.key)) false z.snd.fst.snd.fst.Out z.snd.fst.snd.fst.Behind)).fst).fst).fst (answerT z.snd.fst.snd.snd.fst (askM (Member.mk z.snd.fst.snd.fst.Who z.snd.fst.snd.fst.Slot z.snd.fst.snd.fst.Epoch z.snd.fst.snd.fst.Leaf (Vector.replicate 3 (St.zero St.key)) false z.snd.fst.snd.fst.Out z.snd.fst.snd.fst.Behind)).fst).fst).snd = 21) then some (decide ((takeM (takeM (Member.mk z.snd.fst.snd.fst.Who z.snd.fst.snd.fst.Slot z.snd.fst.snd.fst.Epoch z.snd.fst.snd.fst.Leaf (Vector.replicate 3 (St.zero St.key)) false z.snd.fst.snd.fst.Out z.snd.fst.snd.fst.Behind) (answerT z.snd.fst.snd.snd.fst (askM (Member.mk z.snd.fst.snd.fst.Who z.snd.fst.snd.fst.Slot z.snd.fst.snd.fst.Epoch z.snd.fst.snd.fst.Leaf (Vector.replicate 3 (St.zero St.key)) false z.snd.fst.snd.fst.Out z.snd.fst.snd.fst.Behind)).fst).fst).fst (answerT z.snd.fst.snd.snd.fst (askM (Member.mk z.snd.fst.snd.fst.Who z.snd.fst.snd.fst.Slot z.snd.fst.snd.fst.Epoch z.snd.fst.snd.fst.Leaf (Vector.replicate 3 (St.zero St.key)) false z.snd.fst.snd.fst.Out z.snd.fst.snd.fst.Behind)).fst).fst).fst = (takeM (Member.mk z.snd.fst.snd.fst.Who z.snd.fst.snd.fst.Slot z.snd.fst.snd.fst.Epoch z.snd.fst.snd.fst.Leaf (Vector.replicate 3 (St.zero St.key)) false z.snd.fst.snd.fst.Out z.snd.fst.snd.fst.Behind) (answerT z.snd.fst.snd.snd.fst (askM (Member.mk z.snd.fst.snd.fst.Who z.snd.fst.snd.fst.Slot z.snd.fst.snd.fst.Epoch z.snd.fst.snd.fst.Leaf (Vector.replicate 3 (St.zero St.key)) false z.snd.fst.snd.fst.Out z.snd.fst.snd.fst.Behind)).fst).fst).fst), ()) else some (false, ()) else none else none else bif decide (z.snd.fst.snd.fst.Epoch < z.snd.fst.fst.Behind) then bif decide (z.snd.fst.fst.Behind ≤ 200) then bif !decide ((askM (Member.mk z.snd.fst.snd.fst.Who z.snd.fst.snd.fst.Slot z.snd.fst.snd.fst.Epoch z.snd.fst.snd.fst.Leaf z.snd.fst.snd.fst.Path z.snd.fst.snd.fst.Has z.snd.fst.snd.fst.Out z.snd.fst.fst.Behind)).snd = 0) then some (false, ()) else bif decide (0 ≤ z.snd.fst.snd.fst.Slot) && decide (z.snd.fst.snd.fst.Slot < 64) then bif decide (0 ≤ z.snd.fst.snd.fst.Slot) && decide (z.snd.fst.snd.fst.Slot < 64) then bif !decide (Arr.get z.snd.fst.snd.snd.fst.Roster z.snd.fst.snd.fst.Slot = Arr.get z.snd.fst.fst.Tree.Roster z.snd.fst.snd.fst.Slot) then bif !decide ((answerT z.snd.fst.snd.snd.fst (askM (Member.mk z.snd.fst.snd.fst.Who z.snd.fst.snd.fst.Slot z.snd.fst.snd.fst.Epoch z.snd.fst.snd.fst.Leaf z.snd.fst.snd.fst.Path z.snd.fst.snd.fst.Has z.snd.fst.snd.fst.Out z.snd.fst.fst.Behind)).fst).snd = 0) then some (true, ()) else bif !decide ((answerT z.snd.fst.snd.snd.fst (askM (Member.mk z.snd.fst.snd.fst.Who z.snd.fst.snd.fst.Slot z.snd.fst.snd.fst.Epoch z.snd.fst.snd.fst.Leaf z.snd.fst.snd.fst.Path z.snd.fst.snd.fst.Has z.snd.fst.snd.fst.Out z.snd.fst.fst.Behind)).fst).fst.Slot = z.snd.fst.snd.fst.Slot) then some (true, ()) else bif !decide ((answerT z.snd.fst.snd.snd.fst (askM (Member.mk z.snd.fst.snd.fst.Who z.snd.fst.snd.fst.Slot z.snd.fst.snd.fst.Epoch z.snd.fst.snd.fst.Leaf z.snd.fst.snd.fst.Path z.snd.fst.snd.fst.Has z.snd.fst.snd.fst.Out z.snd.fst.fst.Behind)).fst).fst.Epoch = z.snd.fst.snd.snd.fst.Epoch) then some (true, ()) else bif decide (0 ≤ z.snd.fst.snd.fst.Slot) && decide (z.snd.fst.snd.fst.Slot < 64) then some (decide ((Arr.get z.snd.fst.snd.snd.fst.Roster z.snd.fst.snd.fst.Slot).Who = z.snd.fst.fst.Who), ()) else none else bif !decide ((answerT z.snd.fst.snd.snd.fst (askM (Member.mk z.snd.fst.snd.fst.Who z.snd.fst.snd.fst.Slot z.snd.fst.snd.fst.Epoch z.snd.fst.snd.fst.Leaf z.snd.fst.snd.fst.Path z.snd.fst.snd.fst.Has z.snd.fst.snd.fst.Out z.snd.fst.fst.Behind)).fst).snd = 0) then some (false, ()) else bif z.snd.fst.snd.fst.Has then bif decide (z.snd.fst.snd.snd.fst.Epoch = z.snd.fst.snd.fst.Epoch) then bif decide ((takeM (Member.mk z.snd.fst.snd.fst.Who z.snd.fst.snd.fst.Slot z.snd.fst.snd.fst.Epoch z.snd.fst.snd.fst.Leaf z.snd.fst.snd.fst.Path z.snd.fst.snd.fst.Has z.snd.fst.snd.fst.Out z.snd.fst.fst.Behind) (answerT z.snd.fst.snd.snd.fst (askM (Member.mk z.snd.fst.snd.fst.Who z.snd.fst.snd.fst.Slot z.snd.fst.snd.fst.Epoch z.snd.fst.snd.fst.Leaf z.snd.fst.snd.fst.Path z.snd.fst.snd.fst.Has z.snd.fst.snd.fst.Out z.snd.fst.fst.Behind)).fst).fst).snd = 21) then some (decide ((takeM (Member.mk z.snd.fst.snd.fst.Who z.snd.fst.snd.fst.Slot z.snd.fst.snd.fst.Epoch z.snd.fst.snd.fst.Leaf z.snd.fst.snd.fst.Path z.snd.fst.snd.fst.Has z.snd.fst.snd.fst.Out z.snd.fst.fst.Behind) (answerT z.snd.fst.snd.snd.fst (askM (Member.mk z.snd.fst.snd.fst.Who z.snd.fst.snd.fst.Slot z.snd.fst.snd.fst.Epoch z.snd.fst.snd.fst.Leaf z.snd.fst.snd.fst.Path z.snd.fst.snd.fst.Has z.snd.fst.snd.fst.Out z.snd.fst.fst.Behind)).fst).fst).fst = Member.mk z.snd.fst.snd.fst.Who z.snd.fst.snd.fst.Slot z.snd.fst.snd.fst.Epoch z.snd.fst.snd.fst.Leaf z.snd.fst.snd.fst.Path z.snd.fst.snd.fst.Has z.snd.fst.snd.fst.Out z.snd.fst.fst.Behind), ()) else some (false, ()) else bif !decide ((takeM (Member.mk z.snd.fst.snd.fst.Who z.snd.fst.snd.fst.Slot z.snd.fst.snd.fst.Epoch z.snd.fst.snd.fst.Leaf z.snd.fst.snd.fst.Path z.snd.fst.snd.fst.Has z.snd.fst.snd.fst.Out z.snd.fst.fst.Behind) (answerT z.snd.fst.snd.snd.fst (askM (Member.mk z.snd.fst.snd.fst.Who z.snd.fst.snd.fst.Slot z.snd.fst.snd.fst.Epoch z.snd.fst.snd.fst.Leaf z.snd.fst.snd.fst.Path z.snd.fst.snd.fst.Has z.snd.fst.snd.fst.Out z.snd.fst.fst.Behind)).fst).fst).snd = 0) then some (false, ()) else bif !decide ((stand z.snd.fst.snd.snd.fst z.snd.fst.fst.Who).snd = 0) then some (false, ()) else bif !decide ((takeM (Member.mk z.snd.fst.snd.fst.Who z.snd.fst.snd.fst.Slot z.snd.fst.snd.fst.Epoch z.snd.fst.snd.fst.Leaf z.snd.fst.snd.fst.Path z.snd.fst.snd.fst.Has z.snd.fst.snd.fst.Out z.snd.fst.fst.Behind) (answerT z.snd.fst.snd.snd.fst (askM (Member.mk z.snd.fst.snd.fst.Who z.snd.fst.snd.fst.Slot z.snd.fst.snd.fst.Epoch z.snd.fst.snd.fst.Leaf z.snd.fst.snd.fst.Path z.snd.fst.snd.fst.Has z.snd.fst.snd.fst.Out z.snd.fst.fst.Behind)).fst).fst).fst = Member.mk (stand z.snd.fst.snd.snd.fst z.snd.fst.fst.Who).fst.Who (stand z.snd.fst.snd.snd.fst z.snd.fst.fst.Who).fst.Slot (stand z.snd.fst.snd.snd.fst z.snd.fst.fst.Who).fst.Epoch (stand z.snd.fst.snd.snd.fst z.snd.fst.fst.Who).fst.Leaf (stand z.snd.fst.snd.snd.fst z.snd.fst.fst.Who).fst.Path (stand z.snd.fst.snd.snd.fst z.snd.fst.fst.Who).fst.Has (stand z.snd.fst.snd.snd.fst z.snd.fst.fst.Who).fst.Out (takeM (Member.mk z.snd.fst.snd.fst.Who z.snd.fst.snd.fst.Slot z.snd.fst.snd.fst.Epoch z.snd.fst.snd.fst.Leaf z.snd.fst.snd.fst.Path z.snd.fst.snd.fst.Has z.snd.fst.snd.fst.Out z.snd.fst.fst.Behind) (answerT z.snd.fst.snd.snd.fst (askM (Member.mk z.snd.fst.snd.fst.Who z.snd.fst.snd.fst.Slot z.snd.fst.snd.fst.Epoch z.snd.fst.snd.fst.Leaf z.snd.fst.snd.fst.Path z.snd.fst.snd.fst.Has z.snd.fst.snd.fst.Out z.snd.fst.fst.Behind)).fst).fst).fst.Behind) then some (false, ()) else bif !decide ((takeM (Member.mk z.snd.fst.snd.fst.Who z.snd.fst.snd.fst.Slot z.snd.fst.snd.fst.Epoch z.snd.fst.snd.fst.Leaf z.snd.fst.snd.fst.Path z.snd.fst.snd.fst.Has z.snd.fst.snd.fst.Out z.snd.fst.fst.Behind) (answerT z.snd.fst.snd.snd.fst (askM (Member.mk z.snd.fst.snd.fst.Who z.snd.fst.snd.fst.Slot z.snd.fst.snd.fst.Epoch z.snd.fst.snd.fst.Leaf z.snd.fst.snd.fst.Path z.snd.fst.snd.fst.Has z.snd.fst.snd.fst.Out z.snd.fst.fst.Behind)).fst).fst).fst.Behind = 0) then bif !decide ((takeM (Member.mk z.snd.fst.snd.fst.Who z.snd.fst.snd.fst.Slot z.snd.fst.snd.fst.Epoch z.snd.fst.snd.fst.Leaf z.snd.fst.snd.fst.Path z.snd.fst.snd.fst.Has z.snd.fst.snd.fst.Out z.snd.fst.fst.Behind) (answerT z.snd.fst.snd.snd.fst (askM (Member.mk z.snd.fst.snd.fst.Who z.snd.fst.snd.fst.Slot z.snd.fst.snd.fst.Epoch z.snd.fst.snd.fst.Leaf z.snd.fst.snd.fst.Path z.snd.fst.snd.fst.Has z.snd.fst.snd.fst.Out z.snd.fst.fst.Behind)).fst).fst).fst.Behind = z.snd.fst.fst.Behind) then some (false, ()) else bif decide ((takeM (Member.mk z.snd.fst.snd.fst.Who z.snd.fst.snd.fst.Slot z.snd.fst.snd.fst.Epoch z.snd.fst.snd.fst.Leaf z.snd.fst.snd.fst.Path z.snd.fst.snd.fst.Has z.snd.fst.snd.fst.Out z.snd.fst.fst.Behind) (answerT z.snd.fst.snd.snd.fst (askM (Member.mk z.snd.fst.snd.fst.Who z.snd.fst.snd.fst.Slot z.snd.fst.snd.fst.Epoch z.snd.fst.snd.fst.Leaf z.snd.fst.snd.fst.Path z.snd.fst.snd.fst.Has z.snd.fst.snd.fst.Out z.snd.fst.fst.Behind)).fst).fst).fst.Behind ≤ (takeM (Member.mk z.snd.fst.snd.fst.Who z.snd.fst.snd.fst.Slot z.snd.fst.snd.fst.Epoch z.snd.fst.snd.fst.Leaf z.snd.fst.snd.fst.Path z.snd.fst.snd.fst.Has z.snd.fst.snd.fst.Out z.snd.fst.fst.Behind) (answerT z.snd.fst.snd.snd.fst (askM (Member.mk z.snd.fst.snd.fst.Who z.snd.fst.snd.fst.Slot z.snd.fst.snd.fst.Epoch z.snd.fst.snd.fst.Leaf z.snd.fst.snd.fst.Path z.snd.fst.snd.fst.Has z.snd.fst.snd.fst.Out z.snd.fst.fst.Behind)).fst).fst).fst.Epoch) then some (false, ()) else bif decide ((takeM (takeM (Member.mk z.snd.fst.snd.fst.Who z.snd.fst.snd.fst.Slot z.snd.fst.snd.fst.Epoch z.snd.fst.snd.fst.Leaf z.snd.fst.snd.fst.Path z.snd.fst.snd.fst.Has z.snd.fst.snd.fst.Out z.snd.fst.fst.Behind) (answerT z.snd.fst.snd.snd.fst (askM (Member.mk z.snd.fst.snd.fst.Who z.snd.fst.snd.fst.Slot z.snd.fst.snd.fst.Epoch z.snd.fst.snd.fst.Leaf z.snd.fst.snd.fst.Path z.snd.fst.snd.fst.Has z.snd.fst.snd.fst.Out z.snd.fst.fst.Behind)).fst).fst).fst (answerT z.snd.fst.snd.snd.fst (askM (Member.mk z.snd.fst.snd.fst.Who z.snd.fst.snd.fst.Slot z.snd.fst.snd.fst.Epoch z.snd.fst.snd.fst.Leaf z.snd.fst.snd.fst.Path z.snd.fst.snd.fst.Has z.snd.fst.snd.fst.Out z.snd.fst.fst.Behind)).fst).fst).snd = 21) then some (decide ((takeM (takeM (Member.mk z.snd.fst.snd.fst.Who z.snd.fst.snd.fst.Slot z.snd.fst.snd.fst.Epoch z.snd.fst.snd.fst.Leaf z.snd.fst.snd.fst.Path z.snd.fst.snd.fst.Has z.snd.fst.snd.fst.Out z.snd.fst.fst.Behind) (answerT z.snd.fst.snd.snd.fst (askM (Member.mk z.snd.fst.snd.fst.Who z.snd.fst.snd.fst.Slot z.snd.fst.snd.fst.Epoch z.snd.fst.snd.fst.Leaf z.snd.fst.snd.fst.Path z.snd.fst.snd.fst.Has z.snd.fst.snd.fst.Out z.snd.fst.fst.Behind)).fst).fst).fst (answerT z.snd.fst.snd.snd.fst (askM (Member.mk z.snd.fst.snd.fst.Who z.snd.fst.snd.fst.Slot z.snd.fst.snd.fst.Epoch z.snd.fst.snd.fst.Leaf z.snd.fst.snd.fst.Path z.snd.fst.snd.fst.Has z.snd.fst.snd.fst.Out z.snd.fst.fst.Behind)).fst).fst).fst = (takeM (Member.mk z.snd.fst.snd.fst.Who z.snd.fst.snd.fst.Slot z.snd.fst.snd.fst.Epoch z.snd.fst.snd.fst.Leaf z.snd.fst.snd.fst.Path z.snd.fst.snd.fst.Has z.snd.fst.snd.fst.Out z.snd.fst.fst.Behind) (answerT z.snd.fst.snd.snd.fst (askM (Member.mk z.snd.fst.snd.fst.Who z.snd.fst.snd.fst.Slot z.snd.fst.snd.fst.Epoch z.snd.fst.snd.fst.Leaf z.snd.fst.snd.fst.Path z.snd.fst.snd.fst.Has z.snd.fst.snd.fst.Out z.snd.fst.fst.Behind)).fst).fst).fst), ()) else some (false, ()) else bif decide ((takeM (takeM (Member.mk z.snd.fst.snd.fst.Who z.snd.fst.snd.fst.Slot z.snd.fst.snd.fst.Epoch z.snd.fst.snd.fst.Leaf z.snd.fst.snd.fst.Path z.snd.fst.snd.fst.Has z.snd.fst.snd.fst.Out z.snd.fst.fst.Behind) (answerT z.snd.fst.snd.snd.fst (askM (Member.mk z.snd.fst.snd.fst.Who z.snd.fst.snd.fst.Slot z.snd.fst.snd.fst.Epoch z.snd.fst.snd.fst.Leaf z.snd.fst.snd.fst.Path z.snd.fst.snd.fst.Has z.snd.fst.snd.fst.Out z.snd.fst.fst.Behind)).fst).fst).fst (answerT z.snd.fst.snd.snd.fst (askM (Member.mk z.snd.fst.snd.fst.Who z.snd.fst.snd.fst.Slot z.snd.fst.snd.fst.Epoch z.snd.fst.snd.fst.Leaf z.snd.fst.snd.fst.Path z.snd.fst.snd.fst.Has z.snd.fst.snd.fst.Out z.snd.fst.fst.Behind)).fst).fst).snd = 21) then some (decide ((takeM (takeM (Member.mk z.snd.fst.snd.fst.Who z.snd.fst.snd.fst.Slot z.snd.fst.snd.fst.Epoch z.snd.fst.snd.fst.Leaf z.snd.fst.snd.fst.Path z.snd.fst.snd.fst.Has z.snd.fst.snd.fst.Out z.snd.fst.fst.Behind) (answerT z.snd.fst.snd.snd.fst (askM (Member.mk z.snd.fst.snd.fst.Who z.snd.fst.snd.fst.Slot z.snd.fst.snd.fst.Epoch z.snd.fst.snd.fst.Leaf z.snd.fst.snd.fst.Path z.snd.fst.snd.fst.Has z.snd.fst.snd.fst.Out z.snd.fst.fst.Behind)).fst).fst).fst (answerT z.snd.fst.snd.snd.fst (askM (Member.mk z.snd.fst.snd.fst.Who z.snd.fst.snd.fst.Slot z.snd.fst.snd.fst.Epoch z.snd.fst.snd.fst.Leaf z.snd.fst.snd.fst.Path z.snd.fst.snd.fst.Has z.snd.fst.snd.fst.Out z.snd.fst.fst.Behind)).fst).fst).fst = (takeM (Member.mk z.snd.fst.snd.fst.Who z.snd.fst.snd.fst.Slot z.snd.fst.snd.fst.Epoch z.snd.fst.snd.fst.Leaf z.snd.fst.snd.fst.Path z.snd.fst.snd.fst.Has z.snd.fst.snd.fst.Out z.snd.fst.fst.Behind) (answerT z.snd.fst.snd.snd.fst (askM (Member.mk z.snd.fst.snd.fst.Who z.snd.fst.snd.fst.Slot z.snd.fst.snd.fst.Epoch z.snd.fst.snd.fst.Leaf z.snd.fst.snd.fst.Path z.snd.fst.snd.fst.Has z.snd.fst.snd.fst.Out z.snd.fst.fst.Behind)).fst).fst).fst), ()) else some (false, ()) else bif !decide ((takeM (Member.mk z.snd.fst.snd.fst.Who z.snd.fst.snd.fst.Slot z.snd.fst.snd.fst.Epoch z.snd.fst.snd.fst.Leaf z.snd.fst.snd.fst.Path z.snd.fst.snd.fst.Has z.snd.fst.snd.fst.Out z.snd.fst.fst.Behind) (answerT z.snd.fst.snd.snd.fst (askM (Member.mk z.snd.fst.snd.fst.Who z.snd.fst.snd.fst.Slot z.snd.fst.snd.fst.Epoch z.snd.fst.snd.fst.Leaf z.snd.fst.snd.fst.Path z.snd.fst.snd.fst.Has z.snd.fst.snd.fst.Out z.snd.fst.fst.Behind)).fst).fst).snd = 0) then some (false, ()) else bif !decide ((stand z.snd.fst.snd.snd.fst z.snd.fst.fst.Who).snd = 0) then some (false, ()) else bif !decide ((takeM (Member.mk z.snd.fst.snd.fst.Who z.snd.fst.snd.fst.Slot z.snd.fst.snd.fst.Epoch z.snd.fst.snd.fst.Leaf z.snd.fst.snd.fst.Path z.snd.fst.snd.fst.Has z.snd.fst.snd.fst.Out z.snd.fst.fst.Behind) (answerT z.snd.fst.snd.snd.fst (askM (Member.mk z.snd.fst.snd.fst.Who z.snd.fst.snd.fst.Slot z.snd.fst.snd.fst.Epoch z.snd.fst.snd.fst.Leaf z.snd.fst.snd.fst.Path z.snd.fst.snd.fst.Has z.snd.fst.snd.fst.Out z.snd.fst.fst.Behind)).fst).fst).fst = Member.mk (stand z.snd.fst.snd.snd.fst z.snd.fst.fst.Who).fst.Who (stand z.snd.fst.snd.snd.fst z.snd.fst.fst.Who).fst.Slot (stand z.snd.fst.snd.snd.fst z.snd.fst.fst.Who).fst.Epoch (stand z.snd.fst.snd.snd.fst z.snd.fst.fst.Who).fst.Leaf (stand z.snd.fst.snd.snd.fst z.snd.fst.fst.Who).fst.Path (stand z.snd.fst.snd.snd.fst z.snd.fst.fst.Who).fst.Has (stand z.snd.fst.snd.snd.fst z.snd.fst.fst.Who).fst.Out (takeM (Member.mk z.snd.fst.snd.fst.Who z.snd.fst.snd.fst.Slot z.snd.fst.snd.fst.Epoch z.snd.fst.snd.fst.Leaf z.snd.fst.snd.fst.Path z.snd.fst.snd.fst.Has z.snd.fst.snd.fst.Out z.snd.fst.fst.Behind) (answerT z.snd.fst.snd.snd.fst (askM (Member.mk z.snd.fst.snd.fst.Who z.snd.fst.snd.fst.Slot z.snd.fst.snd.fst.Epoch z.snd.fst.snd.fst.Leaf z.snd.fst.snd.fst.Path z.snd.fst.snd.fst.Has z.snd.fst.snd.fst.Out z.snd.fst.fst.Behind)).fst).fst).fst.Behind) then some (false, ()) else bif !decide ((takeM (Member.mk z.snd.fst.snd.fst.Who z.snd.fst.snd.fst.Slot z.snd.fst.snd.fst.Epoch z.snd.fst.snd.fst.Leaf z.snd.fst.snd.fst.Path z.snd.fst.snd.fst.Has z.snd.fst.snd.fst.Out z.snd.fst.fst.Behind) (answerT z.snd.fst.snd.snd.fst (askM (Member.mk z.snd.fst.snd.fst.Who z.snd.fst.snd.fst.Slot z.snd.fst.snd.fst.Epoch z.snd.fst.snd.fst.Leaf z.snd.fst.snd.fst.Path z.snd.fst.snd.fst.Has z.snd.fst.snd.fst.Out z.snd.fst.fst.Behind)).fst).fst).fst.Behind = 0) then bif !decide ((takeM (Member.mk z.snd.fst.snd.fst.Who z.snd.fst.snd.fst.Slot z.snd.fst.snd.fst.Epoch z.snd.fst.snd.fst.Leaf z.snd.fst.snd.fst.Path z.snd.fst.snd.fst.Has z.snd.fst.snd.fst.Out z.snd.fst.fst.Behind) (answerT z.snd.fst.snd.snd.fst (askM (Member.mk z.snd.fst.snd.fst.Who z.snd.fst.snd.fst.Slot z.snd.fst.snd.fst.Epoch z.snd.fst.snd.fst.Leaf z.snd.fst.snd.fst.Path z.snd.fst.snd.fst.Has z.snd.fst.snd.fst.Out z.snd.fst.fst.Behind)).fst).fst).fst.Behind = z.snd.fst.fst.Behind) then some (false, ()) else bif decide ((takeM (Member.mk z.snd.fst.snd.fst.Who z.snd.fst.snd.fst.Slot z.snd.fst.snd.fst.Epoch z.snd.fst.snd.fst.Leaf z.snd.fst.snd.fst.Path z.snd.fst.snd.fst.Has z.snd.fst.snd.fst.Out z.snd.fst.fst.Behind) (answerT z.snd.fst.snd.snd.fst (askM (Member.mk z.snd.fst.snd.fst.Who z.snd.fst.snd.fst.Slot z.snd.fst.snd.fst.Epoch z.snd.fst.snd.fst.Leaf z.snd.fst.snd.fst.Path z.snd.fst.snd.fst.Has z.snd.fst.snd.fst.Out z.snd.fst.fst.Behind)).fst).fst).fst.Behind ≤ (takeM (Member.mk z.snd.fst.snd.fst.Who z.snd.fst.snd.fst.Slot z.snd.fst.snd.fst.Epoch z.snd.fst.snd.fst.Leaf z.snd.fst.snd.fst.Path z.snd.fst.snd.fst.Has z.snd.fst.snd.fst.Out z.snd.fst.fst.Behind) (answerT z.snd.fst.snd.snd.fst (askM (Member.mk z.snd.fst.snd.fst.Who z.snd.fst.snd.fst.Slot z.snd.fst.snd.fst.Epoch z.snd.fst.snd.fst.Leaf z.snd.fst.snd.fst.Path z.snd.fst.snd.fst.Has z.snd.fst.snd.fst.Out z.snd.fst.fst.Behind)).fst).fst).fst.Epoch) then some (false, ()) else bif decide ((takeM (takeM (Member.mk z.snd.fst.snd.fst.Who z.snd.fst.snd.fst.Slot z.snd.fst.snd.fst.Epoch z.snd.fst.snd.fst.Leaf z.snd.fst.snd.fst.Path z.snd.fst.snd.fst.Has z.snd.fst.snd.fst.Out z.snd.fst.fst.Behind) (answerT z.snd.fst.snd.snd.fst (askM (Member.mk z.snd.fst.snd.fst.Who z.snd.fst.snd.fst.Slot z.snd.fst.snd.fst.Epoch z.snd.fst.snd.fst.Leaf z.snd.fst.snd.fst.Path z.snd.fst.snd.fst.Has z.snd.fst.snd.fst.Out z.snd.fst.fst.Behind)).fst).fst).fst (answerT z.snd.fst.snd.snd.fst (askM (Member.mk z.snd.fst.snd.fst.Who z.snd.fst.snd.fst.Slot z.snd.fst.snd.fst.Epoch z.snd.fst.snd.fst.Leaf z.snd.fst.snd.fst.Path z.snd.fst.snd.fst.Has z.snd.fst.snd.fst.Out z.snd.fst.fst.Behind)).fst).fst).snd = 21) then some (decide ((takeM (takeM (Member.mk z.snd.fst.snd.fst.Who z.snd.fst.snd.fst.Slot z.snd.fst.snd.fst.Epoch z.snd.fst.snd.fst.Leaf z.snd.fst.snd.fst.Path z.snd.fst.snd.fst.Has z.snd.fst.snd.fst.Out z.snd.fst.fst.Behind) (answerT z.snd.fst.snd.snd.fst (askM (Member.mk z.snd.fst.snd.fst.Who z.snd.fst.snd.fst.Slot z.snd.fst.snd.fst.Epoch z.snd.fst.snd.fst.Leaf z.snd.fst.snd.fst.Path z.snd.fst.snd.fst.Has z.snd.fst.snd.fst.Out z.snd.fst.fst.Behind)).fst).fst).fst (answerT z.snd.fst.snd.snd.fst (askM (Member.mk z.snd.fst.snd.fst.Who z.snd.fst.snd.fst.Slot z.snd.fst.snd.fst.Epoch z.snd.fst.snd.fst.Leaf z.snd.fst.snd.fst.Path z.snd.fst.snd.fst.Has z.snd.fst.snd.fst.Out z.snd.fst.fst.Behind)).fst).fst).fst = (takeM (Member.mk z.snd.fst.snd.fst.Who z.snd.fst.snd.fst.Slot z.snd.fst.snd.fst.Epoch z.snd.fst.snd.fst.Leaf z.snd.fst.snd.fst.Path z.snd.fst.snd.fst.Has z.snd.fst.snd.fst.Out z.snd.fst.fst.Behind) (answerT z.snd.fst.snd.snd.fst (askM (Member.mk z.snd.fst.snd.fst.Who z.snd.fst.snd.fst.Slot z.snd.fst.snd.fst.Epoch z.snd.fst.snd.fst.Leaf z.snd.fst.snd.fst.Path z.snd.fst.snd.fst.Has z.snd.fst.snd.fst.Out z.snd.fst.fst.Behind)).fst).fst).fst), ()) else some (false, ()) else bif decide ((takeM (takeM (Member.mk z.snd.fst.snd.fst.Who z.snd.fst.snd.fst.Slot z.snd.fst.snd.fst.Epoch z.snd.fst.snd.fst.Leaf z.snd.fst.snd.fst.Path z.snd.fst.snd.fst.Has z.snd.fst.snd.fst.Out z.snd.fst.fst.Behind) (answerT z.snd.fst.snd.snd.fst (askM (Member.mk z.snd.fst.snd.fst.Who z.snd.fst.snd.fst.Slot z.snd.fst.snd.fst.Epoch z.snd.fst.snd.fst.Leaf z.snd.fst.snd.fst.Path z.snd.fst.snd.fst.Has z.snd.fst.snd.fst.Out z.snd.fst.fst.Behind)).fst).fst).fst (answerT z.snd.fst.snd.snd.fst (askM (Member.mk z.snd.fst.snd.fst.Who z.snd.fst.snd.fst.Slot z.snd.fst.snd.fst.Epoch z.snd.fst.snd.fst.Leaf z.snd.fst.snd.fst.Path z.snd.fst.snd.fst.Has z.snd.fst.snd.fst.Out z.snd.fst.fst.Behind)).fst).fst).snd = 21) then some (decide ((takeM (takeM (Member.mk z.snd.fst.snd.fst.Who z.snd.fst.snd.fst.Slot z.snd.fst.snd.fst.Epoch z.snd.fst.snd.fst.Leaf z.snd.fst.snd.fst.Path z.snd.fst.snd.fst.Has z.snd.fst.snd.fst.Out z.snd.fst.fst.Behind) (answerT z.snd.fst.snd.snd.fst (askM (Member.mk z.snd.fst.snd.fst.Who z.snd.fst.snd.fst.Slot z.snd.fst.snd.fst.Epoch z.snd.fst.snd.fst.Leaf z.snd.fst.snd.fst.Path z.snd.fst.snd.fst.Has z.snd.fst.snd.fst.Out z.snd.fst.fst.Behind)).fst).fst).fst (answerT z.snd.fst.snd.snd.fst (askM (Member.mk z.snd.fst.snd.fst.Who z.snd.fst.snd.fst.Slot z.snd.fst.snd.fst.Epoch z.snd.fst.snd.fst.Leaf z.snd.fst.snd.fst.Path z.snd.fst.snd.fst.Has z.snd.fst.snd.fst.Out z.snd.fst.fst.Behind)).fst).fst).fst = (takeM (Member.mk z.snd.fst.snd.fst.Who z.snd.fst.snd.fst.Slot z.snd.fst.snd.fst.Epoch z.snd.fst.snd.fst.Leaf z.snd.fst.snd.fst.Path z.snd.fst.snd.fst.Has z.snd.fst.snd.fst.Out z.snd.fst.fst.Behind) (answerT z.snd.fst.snd.snd.fst (askM (Member.mk z.snd.fst.snd.fst.Who z.snd.fst.snd.fst.Slot z.snd.fst.snd.fst.Epoch z.snd.fst.snd.fst.Leaf z.snd.fst.snd.fst.Path z.snd.fst.snd.fst.Has z.snd.fst.snd.fst.Out z.snd.fst.fst.Behind)).fst).fst).fst), ()) else some (false, ()) else none else none else bif !decide ((askM z.snd.fst.snd.fst).snd = 0) then some (false, ()) else bif decide (0 ≤ z.snd.fst.snd.fst.Slot) && decide (z.snd.fst.snd.fst.Slot < 64) then bif decide (0 ≤ z.snd.fst.snd.fst.Slot) && decide (z.snd.fst.snd.fst.Slot < 64) then bif !decide (Arr.get z.snd.fst.snd.snd.fst.Roster z.snd.fst.snd.fst.Slot = Arr.get z.snd.fst.fst.Tree.Roster z.snd.fst.snd.fst.Slot) then bif !decide ((answerT z.snd.fst.snd.snd.fst (askM z.snd.fst.snd.fst).fst).snd = 0) then some (true, ()) else bif !decide ((answerT z.snd.fst.snd.snd.fst (askM z.snd.fst.snd.fst).fst).fst.Slot = z.snd.fst.snd.fst.Slot) then some (true, ()) else bif !decide ((answerT z.snd.fst.snd.snd.fst (askM z.snd.fst.snd.fst).fst).fst.Epoch = z.snd.fst.snd.snd.fst.Epoch) then some (true, ()) else bif decide (0 ≤ z.snd.fst.snd.fst.Slot) && decide (z.snd.fst.snd.fst.Slot < 64) then some (decide ((Arr.get z.snd.fst.snd.snd.fst.Roster z.snd.fst.snd.fst.Slot).Who = z.snd.fst.fst.Who), ()) else none else bif !decide ((answerT z.snd.fst.snd.snd.fst (askM z.snd.fst.snd.fst).fst).snd = 0) then some (false, ()) else bif z.snd.fst.snd.fst.Has then bif decide (z.snd.fst.snd.snd.fst.Epoch = z.snd.fst.snd.fst.Epoch) then bif decide ((takeM z.snd.fst.snd.fst (answerT z.snd.fst.snd.snd.fst (askM z.snd.fst.snd.fst).fst).fst).snd = 21) then some (decide ((takeM z.snd.fst.snd.fst (answerT z.snd.fst.snd.snd.fst (askM z.snd.fst.snd.fst).fst).fst).fst = z.snd.fst.snd.fst), ()) else some (false, ()) else bif !decide ((takeM z.snd.fst.snd.fst (answerT z.snd.fst.snd.snd.fst (askM z.snd.fst.snd.fst).fst).fst).snd = 0) then some (false, ()) else bif !decide ((stand z.snd.fst.snd.snd.fst z.snd.fst.fst.Who).snd = 0) then some (false, ()) else bif !decide ((takeM z.snd.fst.snd.fst (answerT z.snd.fst.snd.snd.fst (askM z.snd.fst.snd.fst).fst).fst).fst = Member.mk (stand z.snd.fst.snd.snd.fst z.snd.fst.fst.Who).fst.Who (stand z.snd.fst.snd.snd.fst z.snd.fst.fst.Who).fst.Slot (stand z.snd.fst.snd.snd.fst z.snd.fst.fst.Who).fst.Epoch (stand z.snd.fst.snd.snd.fst z.snd.fst.fst.Who).fst.Leaf (stand z.snd.fst.snd.snd.fst z.snd.fst.fst.Who).fst.Path (stand z.snd.fst.snd.snd.fst z.snd.fst.fst.Who).fst.Has (stand z.snd.fst.snd.snd.fst z.snd.fst.fst.Who).fst.Out (takeM z.snd.fst.snd.fst (answerT z.snd.fst.snd.snd.fst (askM z.snd.fst.snd.fst).fst).fst).fst.Behind) then some (false, ()) else bif !decide ((takeM z.snd.fst.snd.fst (answerT z.snd.fst.snd.snd.fst (askM z.snd.fst.snd.fst).fst).fst).fst.Behind = 0) then bif !decide ((takeM z.snd.fst.snd.fst (answerT z.snd.fst.snd.snd.fst (askM z.snd.fst.snd.fst).fst).fst).fst.Behind = z.snd.fst.snd.fst.Behind) then some (false, ()) else bif decide ((takeM z.snd.fst.snd.fst (answerT z.snd.fst.snd.snd.fst (askM z.snd.fst.snd.fst).fst).fst).fst.Behind ≤ (takeM z.snd.fst.snd.fst (answerT z.snd.fst.snd.snd.fst (askM z.snd.fst.snd.fst).fst).fst).fst.Epoch) then some (false, ()) else bif decide ((takeM (takeM z.snd.fst.snd.fst (answerT z.snd.fst.snd.snd.fst (askM z.snd.fst.snd.fst).fst).fst).fst (answerT z.snd.fst.snd.snd.fst (askM z.snd.fst.snd.fst).fst).fst).snd = 21) then some (decide ((takeM (takeM z.snd.fst.snd.fst (answerT z.snd.fst.snd.snd.fst (askM z.snd.fst.snd.fst).fst).fst).fst (answerT z.snd.fst.snd.snd.fst (askM z.snd.fst.snd.fst).fst).fst).fst = (takeM z.snd.fst.snd.fst (answerT z.snd.fst.snd.snd.fst (askM z.snd.fst.snd.fst).fst).fst).fst), ()) else some (false, ()) else bif decide ((takeM (takeM z.snd.fst.snd.fst (answerT z.snd.fst.snd.snd.fst (askM z.snd.fst.snd.fst).fst).fst).fst (answerT z.snd.fst.snd.snd.fst (askM z.snd.fst.snd.fst).fst).fst).snd = 21) then some (decide ((takeM (takeM z.snd.fst.snd.fst (answerT z.snd.fst.snd.snd.fst (askM z.snd.fst.snd.fst).fst).fst).fst (answerT z.snd.fst.snd.snd.fst (askM z.snd.fst.snd.fst).fst).fst).fst = (takeM z.snd.fst.snd.fst (answerT z.snd.fst.snd.snd.fst (askM z.snd.fst.snd.fst).fst).fst).fst), ()) else some (false, ()) else bif !decide ((takeM z.snd.fst.snd.fst (answerT z.snd.fst.snd.snd.fst (askM z.snd.fst.snd.fst).fst).fst).snd = 0) then some (false, ()) else bif !decide ((stand z.snd.fst.snd.snd.fst z.snd.fst.fst.Who).snd = 0) then some (false, ()) else bif !decide ((takeM z.snd.fst.snd.fst (answerT z.snd.fst.snd.snd.fst (askM z.snd.fst.snd.fst).fst).fst).fst = Member.mk (stand z.snd.fst.snd.snd.fst z.snd.fst.fst.Who).fst.Who (stand z.snd.fst.snd.snd.fst z.snd.fst.fst.Who).fst.Slot (stand z.snd.fst.snd.snd.fst z.snd.fst.fst.Who).fst.Epoch (stand z.snd.fst.snd.snd.fst z.snd.fst.fst.Who).fst.Leaf (stand z.snd.fst.snd.snd.fst z.snd.fst.fst.Who).fst.Path (stand z.snd.fst.snd.snd.fst z.snd.fst.fst.Who).fst.Has (stand z.snd.fst.snd.snd.fst z.snd.fst.fst.Who).fst.Out (takeM z.snd.fst.snd.fst (answerT z.snd.fst.snd.snd.fst (askM z.snd.fst.snd.fst).fst).fst).fst.Behind) then some (false, ()) else bif !decide ((takeM z.snd.fst.snd.fst (answerT z.snd.fst.snd.snd.fst (askM z.snd.fst.snd.fst).fst).fst).fst.Behind = 0) then bif !decide ((takeM z.snd.fst.snd.fst (answerT z.snd.fst.snd.snd.fst (askM z.snd.fst.snd.fst).fst).fst).fst.Behind = z.snd.fst.snd.fst.Behind) then some (false, ()) else bif decide ((takeM z.snd.fst.snd.fst (answerT z.snd.fst.snd.snd.fst (askM z.snd.fst.snd.fst).fst).fst).fst.Behind ≤ (takeM z.snd.fst.snd.fst (answerT z.snd.fst.snd.snd.fst (askM z.snd.fst.snd.fst).fst).fst).fst.Epoch) then some (false, ()) else bif decide ((takeM (takeM z.snd.fst.snd.fst (answerT z.snd.fst.snd.snd.fst (askM z.snd.fst.snd.fst).fst).fst).fst (answerT z.snd.fst.snd.snd.fst (askM z.snd.fst.snd.fst).fst).fst).snd = 21) then some (decide ((takeM (takeM z.snd.fst.snd.fst (answerT z.snd.fst.snd.snd.fst (askM z.snd.fst.snd.fst).fst).fst).fst (answerT z.snd.fst.snd.snd.fst (askM z.snd.fst.snd.fst).fst).fst).fst = (takeM z.snd.fst.snd.fst (answerT z.snd.fst.snd.snd.fst (askM z.snd.fst.snd.fst).fst).fst).fst), ()) else some (false, ()) else bif decide ((takeM (takeM z.snd.fst.snd.fst (answerT z.snd.fst.snd.snd.fst (askM z.snd.fst.snd.fst).fst).fst).fst (answerT z.snd.fst.snd.snd.fst (askM z.snd.fst.snd.fst).fst).fst).snd = 21) then some (decide ((takeM (takeM z.snd.fst.snd.fst (answerT z.snd.fst.snd.snd.fst (askM z.snd.fst.snd.fst).fst).fst).fst (answerT z.snd.fst.snd.snd.fst (askM z.snd.fst.snd.fst).fst).fst).fst = (takeM z.snd.fst.snd.fst (answerT z.snd.fst.snd.snd.fst (askM z.snd.fst.snd.fst).fst).fst).fst), ()) else some (false, ()) else none else none else bif !decide ((askM z.snd.fst.snd.fst).snd = 0) then some (false, ()) else bif decide (0 ≤ z.snd.fst.snd.fst.Slot) && decide (z.snd.fst.snd.fst.Slot < 64) then bif decide (0 ≤ z.snd.fst.snd.fst.Slot) && decide (z.snd.fst.snd.fst.Slot < 64) then bif !decide (Arr.get z.snd.fst.snd.snd.fst.Roster z.snd.fst.snd.fst.Slot = Arr.get z.snd.fst.fst.Tree.Roster z.snd.fst.snd.fst.Slot) then bif !decide ((answerT z.snd.fst.snd.snd.fst (askM z.snd.fst.snd.fst).fst).snd = 0) then some (true, ()) else bif !decide ((answerT z.snd.fst.snd.snd.fst (askM z.snd.fst.snd.fst).fst).fst.Slot = z.snd.fst.snd.fst.Slot) then some (true, ()) else bif !decide ((answerT z.snd.fst.snd.snd.fst (askM z.snd.fst.snd.fst).fst).fst.Epoch = z.snd.fst.snd.snd.fst.Epoch) then some (true, ()) else bif decide (0 ≤ z.snd.fst.snd.fst.Slot) && decide (z.snd.fst.snd.fst.Slot < 64) then some (decide ((Arr.get z.snd.fst.snd.snd.fst.Roster z.snd.fst.snd.fst.Slot).Who = z.snd.fst.fst.Who), ()) else none else bif !decide ((answerT z.snd.fst.snd.snd.fst (askM z.snd.fst.snd.fst).fst).snd = 0) then some (false, ()) else bif z.snd.fst.snd.fst.Has then bif decide (z.snd.fst.snd.snd.fst.Epoch = z.snd.fst.snd.fst.Epoch) then bif decide ((takeM z.snd.fst.snd.fst (answerT z.snd.fst.snd.snd.fst (askM z.snd.fst.snd.fst).fst).fst).snd = 21) then some (decide ((takeM z.snd.fst.snd.fst (answerT z.snd.fst.snd.snd.fst (askM z.snd.fst.snd.fst).fst).fst).fst = z.snd.fst.snd.fst), ()) else some (false, ()) else bif !decide ((takeM z.snd.fst.snd.fst (answerT z.snd.fst.snd.snd.fst (askM z.snd.fst.snd.fst).fst).fst).snd = 0) then some (false, ()) else bif !decide ((stand z.snd.fst.snd.snd.fst z.snd.fst.fst.Who).snd = 0) then some (false, ()) else bif !decide ((takeM z.snd.fst.snd.fst (answerT z.snd.fst.snd.snd.fst (askM z.snd.fst.snd.fst).fst).fst).fst = Member.mk (stand z.snd.fst.snd.snd.fst z.snd.fst.fst.Who).fst.Who (stand z.snd.fst.snd.snd.fst z.snd.fst.fst.Who).fst.Slot (stand z.snd.fst.snd.snd.fst z.snd.fst.fst.Who).fst.Epoch (stand z.snd.fst.snd.snd.fst z.snd.fst.fst.Who).fst.Leaf (stand z.snd.fst.snd.snd.fst z.snd.fst.fst.Who).fst.Path (stand z.snd.fst.snd.snd.fst z.snd.fst.fst.Who).fst.Has (stand z.snd.fst.snd.snd.fst z.snd.fst.fst.Who).fst.Out (takeM z.snd.fst.snd.fst (answerT z.snd.fst.snd.snd.fst (askM z.snd.fst.snd.fst).fst).fst).fst.Behind) then some (false, ()) else bif !decide ((takeM z.snd.fst.snd.fst (answerT z.snd.fst.snd.snd.fst (askM z.snd.fst.snd.fst).fst).fst).fst.Behind = 0) then bif !decide ((takeM z.snd.fst.snd.fst (answerT z.snd.fst.snd.snd.fst (askM z.snd.fst.snd.fst).fst).fst).fst.Behind = z.snd.fst.snd.fst.Behind) then some (false, ()) else bif decide ((takeM z.snd.fst.snd.fst (answerT z.snd.fst.snd.snd.fst (askM z.snd.fst.snd.fst).fst).fst).fst.Behind ≤ (takeM z.snd.fst.snd.fst (answerT z.snd.fst.snd.snd.fst (askM z.snd.fst.snd.fst).fst).fst).fst.Epoch) then some (false, ()) else bif decide ((takeM (takeM z.snd.fst.snd.fst (answerT z.snd.fst.snd.snd.fst (askM z.snd.fst.snd.fst).fst).fst).fst (answerT z.snd.fst.snd.snd.fst (askM z.snd.fst.snd.fst).fst).fst).snd = 21) then some (decide ((takeM (takeM z.snd.fst.snd.fst (answerT z.snd.fst.snd.snd.fst (askM z.snd.fst.snd.fst).fst).fst).fst (answerT z.snd.fst.snd.snd.fst (askM z.snd.fst.snd.fst).fst).fst).fst = (takeM z.snd.fst.snd.fst (answerT z.snd.fst.snd.snd.fst (askM z.snd.fst.snd.fst).fst).fst).fst), ()) else some (false, ()) else bif decide ((takeM (takeM z.snd.fst.snd.fst (answerT z.snd.fst.snd.snd.fst (askM z.snd.fst.snd.fst).fst).fst).fst (answerT z.snd.fst.snd.snd.fst (askM z.snd.fst.snd.fst).fst).fst).snd = 21) then some (decide ((takeM (takeM z.snd.fst.snd.fst (answerT z.snd.fst.snd.snd.fst (askM z.snd.fst.snd.fst).fst).fst).fst (answerT z.snd.fst.snd.snd.fst (askM z.snd.fst.snd.fst).fst).fst).fst = (takeM z.snd.fst.snd.fst (answerT z.snd.fst.snd.snd.fst (askM z.snd.fst.snd.fst).fst).fst).fst), ()) else some (false, ()) else bif !decide ((takeM z.snd.fst.snd.fst (answerT z.snd.fst.snd.snd.fst (askM z.snd.fst.snd.fst).fst).fst).snd = 0) then some (false, ()) else bif !decide ((stand z.snd.fst.snd.snd.fst z.snd.fst.fst.Who).snd = 0) then some (false, ()) else bif !decide ((takeM z.snd.fst.snd.fst (answerT z.snd.fst.snd.snd.fst (askM z.snd.fst.snd.fst).fst).fst).fst = Member.mk (stand z.snd.fst.snd.snd.fst z.snd.fst.fst.Who).fst.Who (stand z.snd.fst.snd.snd.fst z.snd.fst.fst.Who).fst.Slot (stand z.snd.fst.snd.snd.fst z.snd.fst.fst.Who).fst.Epoch (stand z.snd.fst.snd.snd.fst z.snd.fst.fst.Who).fst.Leaf (stand z.snd.fst.snd.snd.fst z.snd.fst.fst.Who).fst.Path (stand z.snd.fst.snd.snd.fst z.snd.fst.fst.Who).fst.Has (stand z.snd.fst.snd.snd.fst z.snd.fst.fst.Who).fst.Out (takeM z.snd.fst.snd.fst (answerT z.snd.fst.snd.snd.fst (askM z.snd.fst.snd.fst).fst).fst).fst.Behind) then some (false, ()) else bif !decide ((takeM z.snd.fst.snd.fst (answerT z.snd.fst.snd.snd.fst (askM z.snd.fst.snd.fst).fst).fst).fst.Behind = 0) then bif !decide ((takeM z.snd.fst.snd.fst (answerT z.snd.fst.snd.snd.fst (askM z.snd.fst.snd.fst).fst).fst).fst.Behind = z.snd.fst.snd.fst.Behind) then some (false, ()) else bif decide ((takeM z.snd.fst.snd.fst (answerT z.snd.fst.snd.snd.fst (askM z.snd.fst.snd.fst).fst).fst).fst.Behind ≤ (takeM z.snd.fst.snd.fst (answerT z.snd.fst.snd.snd.fst (askM z.snd.fst.snd.fst).fst).fst).fst.Epoch) then some (false, ()) else bif decide ((takeM (takeM z.snd.fst.snd.fst (answerT z.snd.fst.snd.snd.fst (askM z.snd.fst.snd.fst).fst).fst).fst (answerT z.snd.fst.snd.snd.fst (askM z.snd.fst.snd.fst).fst).fst).snd = 21) then some (decide ((takeM (takeM z.snd.fst.snd.fst (answerT z.snd.fst.snd.snd.fst (askM z.snd.fst.snd.fst).fst).fst).fst (answerT z.snd.fst.snd.snd.fst (askM z.snd.fst.snd.fst).fst).fst).fst = (takeM z.snd.fst.snd.fst (answerT z.snd.fst.snd.snd.fst (askM z.snd.fst.snd.fst).fst).fst).fst), ()) else some (false, ()) else bif decide ((takeM (takeM z.snd.fst.snd.fst (answerT z.snd.fst.snd.snd.fst (askM z.snd.fst.snd.fst).fst).fst).fst (answerT z.snd.fst.snd.snd.fst (askM z.snd.fst.snd.fst).fst).fst).snd = 21) then some (decide ((takeM (takeM z.snd.fst.snd.fst (answerT z.snd.fst.snd.snd.fst (askM z.snd.fst.snd.fst).fst).fst).fst (answerT z.snd.fst.snd.snd.fst (askM z.snd.fst.snd.fst).fst).fst).fst = (takeM z.snd.fst.snd.fst (answerT z.snd.fst.snd.snd.fst (askM z.snd.fst.snd.fst).fst).fst).fst), ()) else some (false, ()) else none else none
def g_law16_RecoveryStrange_r1 : (Unit × Unit × Int × Unit × Unit × Bool × Int × Unit) × (Key × Member × Reply × Member × Unit) × Unit → Option (((Unit × Unit × Int × Unit × Unit × Bool × Int × Unit) × (Key × Member × Reply × Member × Unit) × Unit) ⊕ ((Unit × Int × Unit × Bool × Unit) × (Member × Member × Unit) × Unit))
  | ((_, _, a, _, _, b, c, _), (d, e, f, g, _), _) => bif decide (c < 3) then bif b then bif decide (0 ≤ c) && decide (c < 3) then some (Sum.inl (((), (), a, (), (), gives d (Arr.get f.Path c).Under, IntKind.wrap IntKind.i64 (c + 1), ()), (d, e, f, g, ()), ())) else none else some (Sum.inl (((), (), a, (), (), false, IntKind.wrap IntKind.i64 (c + 1), ()), (d, e, f, g, ()), ())) else some (Sum.inr (((), a, (), b, ()), (e, g, ()), ()))
/-- coterie/coterielaw16.RecoveryStrange -/
def g_law16_RecoveryStrange : Tree × Int × Key × Unit → Option (Bool × Unit)
  | (a, b, c, _) => bif !decide ((stand a b).snd = 0) then some (true, ()) else bif !decide ((answerT a (Request.mk b a.Epoch)).snd = 0) then some (false, ()) else bif !good c then bif decide ((takeM (Member.mk (stand a b).fst.Who (stand a b).fst.Slot (stand a b).fst.Epoch c (Vector.replicate 3 (St.zero St.key)) false (stand a b).fst.Out (stand a b).fst.Behind) (answerT a (Request.mk b a.Epoch)).fst).snd = 30) then some (decide ((takeM (Member.mk (stand a b).fst.Who (stand a b).fst.Slot (stand a b).fst.Epoch c (Vector.replicate 3 (St.zero St.key)) false (stand a b).fst.Out (stand a b).fst.Behind) (answerT a (Request.mk b a.Epoch)).fst).fst = Member.mk (stand a b).fst.Who (stand a b).fst.Slot (stand a b).fst.Epoch c (Vector.replicate 3 (St.zero St.key)) false (stand a b).fst.Out (stand a b).fst.Behind), ()) else some (false, ()) else Option.bind (lfp g_law16_RecoveryStrange_r1 (((), (), (takeM (Member.mk (stand a b).fst.Who (stand a b).fst.Slot (stand a b).fst.Epoch c (Vector.replicate 3 (St.zero St.key)) false (stand a b).fst.Out (stand a b).fst.Behind) (answerT a (Request.mk b a.Epoch)).fst).snd, (), (), true, 0, ()), (c, Member.mk (stand a b).fst.Who (stand a b).fst.Slot (stand a b).fst.Epoch c (Vector.replicate 3 (St.zero St.key)) false (stand a b).fst.Out (stand a b).fst.Behind, (answerT a (Request.mk b a.Epoch)).fst, (takeM (Member.mk (stand a b).fst.Who (stand a b).fst.Slot (stand a b).fst.Epoch c (Vector.replicate 3 (St.zero St.key)) false (stand a b).fst.Out (stand a b).fst.Behind) (answerT a (Request.mk b a.Epoch)).fst).fst, ()), ())) fun z => bif decide (decide (z.fst.snd.fst = 0) = z.fst.snd.snd.snd.fst) then bif z.fst.snd.snd.snd.fst then some (true, ()) else some (decide (z.snd.fst.snd.fst = z.snd.fst.fst), ()) else some (false, ())
def g_law16_RecoveryYoung_r1 : (Unit × List Tree × List Batch × Int × Int × Unit) × (Lag × Unit) × Unit → Option (((Unit × List Tree × List Batch × Int × Int × Unit) × (Lag × Unit) × Unit) ⊕ ((Unit × List Tree × Unit) × (Lag × Unit) × Unit))
  | ((_, a, b, c, d, _), (e, _), _) => bif decide (d < c) then bif decide (0 ≤ d) && decide (d < (↑(List.length b) : Int)) then bif decide (0 ≤ IntKind.wrap IntKind.i64 ((↑(List.length a) : Int) - 1)) && decide (IntKind.wrap IntKind.i64 ((↑(List.length a) : Int) - 1) < (↑(List.length a) : Int)) then bif decide ((nextR (lat a (IntKind.wrap IntKind.i64 ((↑(List.length a) : Int) - 1))) (lat b d)).snd.snd = 0) then bif decide ((List.length a + 1) * 1888 ≤ 140737488355328) then some (Sum.inl (((), List.append a [(nextR (lat a (IntKind.wrap IntKind.i64 ((↑(List.length a) : Int) - 1))) (lat b d)).fst], b, c, IntKind.wrap IntKind.i64 (d + 1), ()), (e, ()), ())) else none else some (Sum.inl (((), a, b, c, IntKind.wrap IntKind.i64 (d + 1), ()), (e, ()), ())) else none else none else some (Sum.inr (((), a, ()), (e, ()), ()))
/-- coterie/coterielaw16.RecoveryYoung -/
def g_law16_RecoveryYoung : Lag × Unit → Option (Bool × Unit)
  | (a, _) => Option.bind (lfp g_law16_RecoveryYoung_r1 (((), [a.Tree], a.Script, (↑(List.length a.Script) : Int), 0, ()), (a, ()), ())) fun z => bif decide (0 ≤ IntKind.wrap IntKind.i64 ((↑(List.length z.fst.snd.fst) : Int) - 1)) && decide (IntKind.wrap IntKind.i64 ((↑(List.length z.fst.snd.fst) : Int) - 1) < (↑(List.length z.fst.snd.fst) : Int)) then bif !decide ((answerT (lat z.fst.snd.fst (IntKind.wrap IntKind.i64 ((↑(List.length z.fst.snd.fst) : Int) - 1))) (Request.mk z.snd.fst.fst.Who 1)).snd = 0) then some (decide ((answerT (lat z.fst.snd.fst (IntKind.wrap IntKind.i64 ((↑(List.length z.fst.snd.fst) : Int) - 1))) (Request.mk z.snd.fst.fst.Who 1)).fst = Reply.mk 0 0 0 (Vector.replicate 3 (St.zero St.box))), ()) else none else none
end Go.Co.N
end
end

section
namespace Go.Co.N
open Go Go.Co

/-! ### Keys -/
theorem eq_key_Good : Eqs c_key_Good g_key_Good := Eqs.tot fun (k, _) _ => by
  have : decide (0 < k.Base) = decide (1 ≤ k.Base) := by congr 1
  simp only [g_key_Good, good, this]
  cases decide (1 ≤ k.Base) <;> cases decide (k.Base ≤ 65535) <;> cases decide (0 ≤ k.Step) <;> rfl
theorem eq_ref02_Good : Eqs c_ref02_Good g_ref02_Good := Eqs.tot fun (k, _) _ => by
  simp only [g_ref02_Good, good]
  cases decide (1 ≤ k.Base) <;> cases decide (k.Base ≤ 65535) <;> cases decide (0 ≤ k.Step) <;> rfl
theorem eq_key_Ahead : Eqs c_key_Ahead g_key_Ahead := Eqs.tot fun (k, n, _) _ => by
  change Int at n
  simp only [g_key_Ahead, ahead]
  cases hg : good k with
  | false => simp
  | true =>
    have hg' := good_iff.1 hg
    simp only [Bool.not_true, cond_false, if_true]
    rw [i64_in _ (by omega)]
    by_cases hn : n < 0
    · rw [if_neg (by omega)]; simp [hn]
    · by_cases hn2 : 255 - k.Step < n
      · rw [if_neg (by omega)]; simp [hn, hn2]
      · rw [if_pos (by omega), i64_in _ (by omega)]; simp [hn, hn2]
theorem eq_ref02_Ahead : Eqs c_ref02_Ahead g_ref02_Ahead := Eqs.tot fun (k, n, _) _ => by
  change Int at n
  simp only [g_ref02_Ahead, ahead]
  cases hg : good k with
  | false => simp
  | true =>
    have hg' := good_iff.1 hg
    simp only [Bool.not_true, cond_false, if_true]
    by_cases hn : n < 0
    · rw [if_neg (by omega)]; simp [hn]
    · by_cases hn2 : 255 < n
      · rw [if_neg (by omega)]; simp [hn, hn2]
      · simp only [hn, hn2, decide_false, cond_false]
        rw [lfp_run' (fun i => ((n, (), (), (i : Int), ()), (⟨k.Base, k.Step + i⟩, St.key.zero, ()), ())) n.toNat (by simp) fun i hi => by
          have h1 : (i : Int) < n := by omega
          simp only [g_ref02_Ahead_r1, h1, decide_true, cond_true]
          rw [i64_in _ (by omega), i64_in _ (by omega), Int.add_assoc]; rfl]
        have hnn : ((n.toNat : Nat) : Int) = n := by omega
        rw [lfp_inr (z := (((), (), ()), (⟨k.Base, k.Step + n⟩, St.key.zero, ()), ())) (by simp [g_ref02_Ahead_r1, hnn])]
        simp only [Option.bind_some]
        by_cases hs : k.Step + n ≤ 255
        · have : good ⟨k.Base, k.Step + n⟩ = true := good_iff.2 ⟨hg'.1, hg'.2.1, by simp only; omega, hs⟩
          rw [if_pos ⟨by omega, hs⟩, this]; simp
        · have : good ⟨k.Base, k.Step + n⟩ = false := by
            cases hq : good ⟨k.Base, k.Step + n⟩ with
            | false => rfl
            | true => have := good_iff.1 hq; simp only at this; omega
          rw [if_neg (fun h => hs h.2), this]; simp
theorem eq_ref02_Gives : Eqs c_ref02_Gives g_ref02_Gives := Eqs.tot fun (a, b, _) _ => by
  simp only [g_ref02_Gives, gives]
  cases good a <;> cases good b <;> cases decide (a.Base = b.Base) <;> rfl

/-! ### Masks -/
theorem eq_ref01_In : Eqs c_ref01_In g_ref01_In := Eqs.tot fun (m, v, _) hf => by
  change Int at m v
  have hm := fine_u32.1 hf.1
  simp only [g_ref01_In, inB]
  by_cases g1 : v < 0
  · have : ¬ 0 ≤ v := by omega
    simp [g1, this]
  by_cases g2 : 32 ≤ v
  · have : ¬ v < 32 := by omega
    simp [g1, g2, this]
  have g3 : 0 ≤ v := by omega
  have g4 : v < 32 := by omega
  have hle : ∀ i : Nat, 0 ≤ m / 2 ^ i ∧ m / 2 ^ i ≤ 4294967295 := fun i => ⟨Int.ediv_nonneg hm.1 (Int.pow_nonneg (by omega)), Int.le_trans (Int.ediv_le_self _ hm.1) hm.2⟩
  simp only [g1, g2, g3, g4, decide_false, decide_true, cond_false, Bool.true_and]
  rw [lfp_run' (fun i => ((m / 2 ^ i, v, (i : Int), ()), (), ())) v.toNat (by simp) fun i hi => by
    have h1 : (i : Int) < v := by omega
    have := hle i
    simp only [g_ref01_In_r1, h1, decide_true, cond_true]
    rw [Int.tdiv_eq_ediv_of_nonneg this.1, Go.IntWalk.u32_in _ (by omega), i64_in _ (by omega), Int.pow_succ, Int.ediv_ediv_of_nonneg (Int.pow_nonneg (by omega))]; rfl]
  have hnn : ((v.toNat : Nat) : Int) = v := by omega
  rw [lfp_inr (z := ((m / 2 ^ v.toNat, ()), (), ())) (by simp [g_ref01_In_r1, hnn])]
  simp only [Option.bind_some]
  rw [Int.tmod_eq_emod_of_nonneg (hle _).1]
theorem cntTo_le (m : Int) : ∀ n : Nat, 0 ≤ cntTo m n ∧ cntTo m n ≤ n
  | 0 => by simp [cntTo]
  | n + 1 => by
    have := cntTo_le m n
    simp only [cntTo]
    split <;> omega
theorem cntTo_mono (m : Int) {a b : Nat} (h : a ≤ b) : cntTo m a ≤ cntTo m b ∧ cntTo m b ≤ cntTo m a + (b - a : Nat) := by
  obtain ⟨d, rfl⟩ := Nat.exists_eq_add_of_le h
  induction d with
  | zero => simp
  | succ d ih =>
    have := ih (by omega)
    rw [show a + (d + 1) = (a + d) + 1 by omega]
    simp only [cntTo]
    split <;> omega
theorem eq_ref10_count : Eqs c_ref10_count g_ref10_count := Eqs.tot fun (m, _) _ => by
  change Int at m
  simp only [g_ref10_count]
  rw [lfp_run' (fun i => ((m, cntTo m i, (i : Int), ()), (), ())) 21 (by simp [cntTo]) fun i hi => by
    have h1 : (i : Int) < 21 := by omega
    have := cntTo_le m i
    simp only [g_ref10_count_r1, h1, decide_true, cond_true, cntTo]
    cases inB m i <;> simp <;> rw [i64_in _ (by omega)] <;> (try (rw [i64_in _ (by omega)]; exact ⟨rfl, rfl⟩))]
  rw [lfp_inr (z := ((cntTo m 21, ()), (), ())) (by simp [g_ref10_count_r1])]
  simp

/-! ### Bits -/
theorem bw_and_nat (n m : Nat) (hn : n < 4294967296) (hm : m < 4294967296) : bw .and .u32 (n : Int) (m : Int) = ((n &&& m : Nat) : Int) := by
  have e1 : BitVec.ofInt IntKind.u32.bits (n : Int) = BitVec.ofNat 32 n := by simp [IntKind.bits]
  have e2 : BitVec.ofInt IntKind.u32.bits (m : Int) = BitVec.ofNat 32 m := by simp [IntKind.bits]
  have hle : n &&& m ≤ n := Nat.and_le_left
  unfold bw
  simp only [e1, e2]
  have e3 : (BitVec.ofNat 32 n &&& BitVec.ofNat 32 m).toNat = n &&& m := by
    simp [BitVec.toNat_and, Nat.mod_eq_of_lt hn, Nat.mod_eq_of_lt hm]
  show IntKind.u32.wrap (((BitVec.ofNat 32 n &&& BitVec.ofNat 32 m).toNat : Nat) : Int) = _
  rw [e3, Go.IntWalk.u32_in _ (by omega)]
theorem bw_and_one (x : Int) (h0 : 0 ≤ x) (h1 : x ≤ 4294967295) : bw .and .u32 x 1 = x % 2 := by
  obtain ⟨n, rfl⟩ := Int.eq_ofNat_of_zero_le h0
  have := bw_and_nat n 1 (by omega) (by omega)
  rw [show ((1 : Nat) : Int) = 1 from rfl] at this
  rw [this, Nat.and_one_is_mod]; omega
theorem shr_u32 (x : Int) (v : Int) (hv : 0 ≤ v) (hv2 : v < 32) : shrI .u32 x v = x / 2 ^ v.toNat := by
  unfold shrI
  have : min v.toNat IntKind.u32.bits = v.toNat := by simp [IntKind.bits]; omega
  rw [this, Int.fdiv_eq_ediv_of_nonneg _ (Int.pow_nonneg (by omega))]
/-- The bit that the program asks for is the node's. -/
theorem bit_in (m v : Int) (h0 : 0 ≤ m) (h1 : m ≤ 4294967295) (hv : 0 ≤ v) (hv2 : v < 32) : decide (bw .and .u32 (shrI .u32 m v) 1 = 1) = inB m v := by
  rw [shr_u32 m v hv hv2]
  have hn : 0 ≤ m / 2 ^ v.toNat := Int.ediv_nonneg h0 (Int.pow_nonneg (by omega))
  have hle : m / 2 ^ v.toNat ≤ m := Int.ediv_le_self _ h0
  rw [bw_and_one _ hn (by omega)]
  simp [inB, hv, hv2]
theorem bit_in' (m v : Int) (h0 : 0 ≤ m) (h1 : m ≤ 4294967295) (hv : 0 ≤ v) (hv2 : v < 32) : decide (bw .and .u32 (shrI .u32 m (IntKind.wrap .u64 v)) 1 = 1) = inB m v := by
  rw [Go.IntWalk.u64_in _ (by omega)]; exact bit_in m v h0 h1 hv hv2
theorem inB_big {m v : Int} (h0 : 0 ≤ m) {k : Nat} (hk : m < 2 ^ k) (hv : (k : Int) ≤ v) : inB m v = false := by
  unfold inB
  have : m / 2 ^ v.toNat = 0 := by
    refine Int.ediv_eq_zero_of_lt h0 (Int.lt_of_lt_of_le hk ?_)
    obtain ⟨d, hd⟩ := Nat.exists_eq_add_of_le (show k ≤ v.toNat by omega)
    rw [hd, Int.pow_add]
    have h1 : (1 : Int) ≤ 2 ^ d := Int.pow_pos (by omega)
    have h2 : (0 : Int) < 2 ^ k := Int.pow_pos (by omega)
    have := Int.mul_le_mul_of_nonneg_left h1 (Int.le_of_lt h2)
    omega
  simp [this]
theorem cntTo_small {m : Int} (h0 : 0 ≤ m) {k : Nat} (hk : m < 2 ^ k) : ∀ d, cntTo m (k + d) = cntTo m k
  | 0 => rfl
  | d + 1 => by
    rw [show k + (d + 1) = (k + d) + 1 by omega]
    simp only [cntTo]
    rw [inB_big h0 hk (by omega), cntTo_small h0 hk d]; simp
def bits : Nat → Nat → Nat
  | 0, _ => 0
  | d + 1, n => n % 2 + bits d (n / 2)
theorem bits_le : ∀ (d n : Nat), bits d n ≤ d
  | 0, _ => by simp [bits]
  | d + 1, n => by have := bits_le d (n / 2); simp only [bits]; omega
theorem bits_add : ∀ (a b n : Nat), bits (a + b) n = bits a n + bits b (n / 2 ^ a)
  | 0, b, n => by simp [bits]
  | a + 1, b, n => by
    rw [show a + 1 + b = (a + b) + 1 by omega]
    simp only [bits]
    rw [bits_add a b (n / 2), Nat.div_div_eq_div_mul, show 2 * 2 ^ a = 2 ^ (a + 1) by rw [Nat.pow_succ]; omega]
    omega
theorem bits_mod : ∀ (d n : Nat), bits d (n % 2 ^ d) = bits d n
  | 0, n => by simp [bits]
  | d + 1, n => by
    simp only [bits]
    have e1 : n % 2 ^ (d + 1) % 2 = n % 2 := by rw [Nat.pow_succ, Nat.mul_comm]; exact Nat.mod_mul_right_mod n 2 (2 ^ d)
    have e2 : n % 2 ^ (d + 1) / 2 = n / 2 % 2 ^ d := by rw [Nat.pow_succ, Nat.mul_comm]; exact Nat.mod_mul_right_div_self n 2 (2 ^ d)
    rw [e1, e2, bits_mod d (n / 2)]
theorem bits_cnt (n : Nat) : ∀ d : Nat, d ≤ 32 → (bits d n : Int) = cntTo (n : Int) d
  | 0, _ => rfl
  | d + 1, h => by
    rw [bits_add d 1 n, cntTo, ← bits_cnt n d (by omega)]
    have hb : inB (n : Int) (d : Int) = decide (n / 2 ^ d % 2 = 1) := by
      unfold inB
      have h1 : (0 : Int) ≤ (d : Int) := by omega
      have h2 : (d : Int) < 32 := by omega
      simp only [h1, h2, decide_true, Bool.true_and, Int.toNat_natCast]
      congr 1
      rw [show ((n : Int) / 2 ^ d) = ((n / 2 ^ d : Nat) : Int) by simp]
      simp only [eq_iff_iff]
      omega
    rw [hb]
    simp only [bits]
    by_cases hc : n / 2 ^ d % 2 = 1
    · simp [hc]
    · have : n / 2 ^ d % 2 = 0 := by omega
      simp [this]
theorem and_255 (n : Nat) (hn : n < 4294967296) : bw .and .u32 (n : Int) 255 = ((n % 2 ^ 8 : Nat) : Int) := by
  have := bw_and_nat n 255 hn (by omega)
  rw [show ((255 : Nat) : Int) = 255 from rfl] at this
  rw [this, show (255 : Nat) = 2 ^ 8 - 1 from rfl, Nat.and_two_pow_sub_one_eq_mod]
theorem shr_nat (n v : Nat) (hv : v < 32) : shrI .u32 (n : Int) (v : Int) = ((n / 2 ^ v : Nat) : Int) := by
  rw [shr_u32 _ _ (by omega) (by omega)]
  simp
def tab8 : ByteArray := bytesOf ((List.range 256).map (bits 8))
theorem bat_tab (n : Nat) (hn : n < 256) : bat tab8 (n : Int) = (bits 8 n : Int) := by
  have hb := bits_le 8 n
  unfold bat tab8 bytesOf
  simp [hn]
  omega
set_option maxRecDepth 100000 in
theorem eq_bits_OnesCount32 : Eqs c_bits_OnesCount32 g_bits_OnesCount32 := Eqs.tot fun (x, _) hf => by
  change Int at x
  have hx := fine_u32.1 hf.1
  obtain ⟨n, rfl⟩ := Int.eq_ofNat_of_zero_le hx.1
  have hn : n < 4294967296 := by omega
  rw [g_bits_OnesCount32]
  generalize ht : bytesOf _ = tab
  have htab : tab = tab8 := by rw [← ht]; rfl
  subst htab
  show _ = some (cntTo (n : Int) 32, ())
  rw [← bits_cnt n 32 (by omega)]
  have s24 : shrI .u32 (n : Int) 24 = ((n / 2 ^ 24 : Nat) : Int) := shr_nat n 24 (by omega)
  have s16 : shrI .u32 (n : Int) 16 = ((n / 2 ^ 16 : Nat) : Int) := shr_nat n 16 (by omega)
  have s8 : shrI .u32 (n : Int) 8 = ((n / 2 ^ 8 : Nat) : Int) := shr_nat n 8 (by omega)
  have h24 : n / 2 ^ 24 < 256 := by omega
  have h16 : n / 2 ^ 16 < 4294967296 := by omega
  have h8 : n / 2 ^ 8 < 4294967296 := by omega
  have m16 : n / 2 ^ 16 % 2 ^ 8 < 256 := Nat.mod_lt _ (by omega)
  have m8 : n / 2 ^ 8 % 2 ^ 8 < 256 := Nat.mod_lt _ (by omega)
  have m0 : n % 2 ^ 8 < 256 := Nat.mod_lt _ (by omega)
  have hsum : bits 32 n = bits 8 n + (bits 8 (n / 2 ^ 8) + (bits 8 (n / 2 ^ 16) + bits 8 (n / 2 ^ 24))) := by
    rw [show 32 = 8 + (8 + (8 + 8)) from rfl, bits_add, bits_add, bits_add, Nat.div_div_eq_div_mul, Nat.div_div_eq_div_mul]
  have b0 := bits_le 8 n
  have b1 := bits_le 8 (n / 2 ^ 8)
  have b2 := bits_le 8 (n / 2 ^ 16)
  have b3 := bits_le 8 (n / 2 ^ 24)
  rw [s24, s16, s8, and_255 _ h16, and_255 _ h8, and_255 _ hn, bat_tab _ h24, bat_tab _ m16, bat_tab _ m8, bat_tab _ m0, bits_mod, bits_mod, bits_mod]
  rw [Go.IntWalk.u8_in ((bits 8 (n / 2 ^ 24) : Int) + (bits 8 (n / 2 ^ 16) : Int)) (by omega), Go.IntWalk.u8_in ((bits 8 (n / 2 ^ 24) : Int) + (bits 8 (n / 2 ^ 16) : Int) + (bits 8 (n / 2 ^ 8) : Int)) (by omega),
    Go.IntWalk.u8_in ((bits 8 (n / 2 ^ 24) : Int) + (bits 8 (n / 2 ^ 16) : Int) + (bits 8 (n / 2 ^ 8) : Int) + (bits 8 n : Int)) (by omega), i64_in _ (by omega), hsum]
  have k1 : decide ((0 : Int) ≤ ((n / 2 ^ 24 : Nat) : Int)) = true := decide_eq_true (by omega)
  have k2 : decide (((n / 2 ^ 24 : Nat) : Int) < 256) = true := decide_eq_true (by omega)
  have k3 : decide ((0 : Int) ≤ ((n / 2 ^ 16 % 2 ^ 8 : Nat) : Int)) = true := decide_eq_true (by omega)
  have k4 : decide (((n / 2 ^ 16 % 2 ^ 8 : Nat) : Int) < 256) = true := decide_eq_true (by omega)
  have k5 : decide ((0 : Int) ≤ ((n / 2 ^ 8 % 2 ^ 8 : Nat) : Int)) = true := decide_eq_true (by omega)
  have k6 : decide (((n / 2 ^ 8 % 2 ^ 8 : Nat) : Int) < 256) = true := decide_eq_true (by omega)
  have k7 : decide ((0 : Int) ≤ ((n % 2 ^ 8 : Nat) : Int)) = true := decide_eq_true (by omega)
  have k8 : decide (((n % 2 ^ 8 : Nat) : Int) < 256) = true := decide_eq_true (by omega)
  rw [k1, k2, k3, k4, k5, k6, k7, k8]
  simp only [Bool.and_self, cond_true, Option.some.injEq, Prod.mk.injEq, and_true]
  omega

/-! ### The ratchet's check -/
theorem mget_cons {α β : Type} [DecidableEq α] (e : α × β) (l : List (α × β)) (k : α) : mget (e :: l) k = if e.1 = k then some e.2 else mget l k := by
  unfold mget
  by_cases h : e.1 = k <;> simp [h]
theorem mget_mput {α β : Type} [DecidableEq α] (a : α) (b : β) (c : α) : ∀ l : List (α × β), mget (mput l a b) c = if a = c then some b else mget l c
  | [] => by simp only [mput]; rw [mget_cons]
  | e :: l => by
    simp only [mput]
    by_cases h : e.1 = a
    · rw [if_pos h, mget_cons, mget_cons]
      by_cases hc : a = c
      · simp [hc]
      · have : ¬ e.1 = c := by rw [h]; exact hc
        simp [hc, this]
    · rw [if_neg h, mget_cons, mget_mput a b c l, mget_cons]
      by_cases hc : a = c
      · subst hc; simp [h]
      · simp [hc]
/-- A map that counts, behind i places. -/
def cmap (g : Nat → Int) : Nat → List (Int × Int)
  | 0 => []
  | i + 1 => mput (cmap g i) (g i) ((mget (cmap g i) (g i)).getD 0 + 1)
theorem cmap_get (g : Nat → Int) (b : Int) : ∀ i, 0 ≤ (mget (cmap g i) b).getD 0 ∧ (mget (cmap g i) b).getD 0 ≤ i ∧ ((mget (cmap g i) b).getD 0 = 0 ↔ ∀ j, j < i → g j ≠ b)
  | 0 => by simp [cmap, mget]
  | i + 1 => by
    obtain ⟨h1, h2, h3⟩ := cmap_get g b i
    simp only [cmap]
    rw [mget_mput]
    by_cases hb : g i = b
    · rw [if_pos hb, hb]
      simp only [Option.getD_some]
      refine ⟨by omega, by omega, ⟨fun h => by omega, fun h => absurd hb (h i (by omega))⟩⟩
    · simp only [if_neg hb]
      refine ⟨h1, by omega, h3.trans ⟨fun h j hj => ?_, fun h j hj => h j (by omega)⟩⟩
      by_cases he : j = i
      · subst he; exact hb
      · exact h j (by omega)
theorem cmap_succ (g : Nat → Int) (i : Nat) (h : i < 1000000) : mput (cmap g i) (g i) (IntKind.i64.wrap ((mget (cmap g i) (g i)).getD 0 + 1)) = cmap g (i + 1) := by
  have := cmap_get g (g i) i
  rw [i64_in _ (by omega)]; rfl
theorem cmap_twice (g : Nat → Int) (i : Nat) : (1 < (mget (cmap g (i + 1)) (g i)).getD 0) ↔ ¬ ∀ j, j < i → g j ≠ g i := by
  have := cmap_get g (g i) i
  simp only [cmap]
  rw [mget_mput, if_pos rfl]
  simp only [Option.getD_some]
  rw [← this.2.2]
  omega
theorem eq_ratchet_Check : Eqs c_ratchet_Check g_ratchet_Check := Eqs.tot fun (k, _) _ => by
  simp only [g_ratchet_Check]
  rw [lfp_all' (fun i => (((), k, (i : Int), ()), (), cmap (fun j => bas k j) i, ())) 21 (okAt k) (.inl ((31, ()), (), ())) (.inr ((), (), ())) (by rfl)
    (fun i hi hok => by
      have h1 : (i : Int) < 21 := by omega
      obtain ⟨hg, hb, hn⟩ := okAt_iff.1 hok
      have hb' : ¬ 32768 ≤ (Arr.get k i).Base := by have : (Arr.get k i).Base < 32768 := hb; omega
      have hc := cmap_succ (fun j => bas k j) i (by omega)
      have ht : ¬ 1 < (mget (cmap (fun j => bas k j) (i + 1)) (bas k i)).getD 0 := fun h => (cmap_twice (fun j => bas k j) i).1 h hn
      simp only [g_ratchet_Check_r1, h1, decide_true, cond_true, Int.natCast_nonneg, Bool.and_self, hg, Bool.not_true, cond_false, hb', decide_false]
      simp only [bas] at hc ht ⊢
      rw [hc]
      simp only [ht, decide_false, cond_false, wrap1 i (by omega)])
    (fun i hi hok => by
      have h1 : (i : Int) < 21 := by omega
      have hc := cmap_succ (fun j => bas k j) i (by omega)
      simp only [g_ratchet_Check_r1, h1, decide_true, cond_true, Int.natCast_nonneg, Bool.and_self]
      cases hg : good (Arr.get k i) with
      | false => simp
      | true =>
        simp only [Bool.not_true, cond_false]
        by_cases hb : 32768 ≤ (Arr.get k i).Base
        · simp [hb]
        · have ht : 1 < (mget (cmap (fun j => bas k j) (i + 1)) (bas k i)).getD 0 := (cmap_twice (fun j => bas k j) i).2 fun hn => by
            have : okAt k i = true := okAt_iff.2 ⟨hg, by show (Arr.get k i).Base < 32768; omega, hn⟩
            rw [this] at hok; cases hok
          simp only [hb, decide_false, cond_false]
          simp only [bas] at hc ht ⊢
          rw [hc]
          simp only [ht, decide_true, cond_true])
    (by simp [g_ratchet_Check_r1])]
  simp only [Option.bind_some, chk, goodKeys]
  cases allN 21 (okAt k) <;> rfl
theorem eq_ref10_Check : Eqs c_ref10_Check g_ref10_Check := Eqs.tot fun (k, _) _ => by
  simp only [g_ref10_Check]
  have inner : ∀ v : Nat, v < 21 → lfp g_ref10_Check_r2 (((), (v : Int), 0, ()), (k, ()), ()) = some (bif allN v (fun w => !decide (bas k w = bas k v)) then .inr (((), (v : Int), ()), (k, ()), ()) else .inl ((31, ()), (), ())) := fun v hv =>
    lfp_all' (fun i => (((), (v : Int), (i : Int), ()), (k, ()), ())) v (fun w => !decide (bas k w = bas k v)) _ _ rfl
      (fun i hi hok => by
        have h1 : (i : Int) < v := by omega
        have h2 : (v : Int) < 21 := by omega
        have hok : ¬ (Arr.get k i).Base = (Arr.get k v).Base := by simpa using hok
        simp only [g_ref10_Check_r2, h1, decide_true, cond_true, (show (i : Int) < 21 by omega), Int.natCast_nonneg, Bool.and_self, h2, hok, decide_false, cond_false, wrap1 i (by omega)])
      (fun i hi hok => by
        have h1 : (i : Int) < v := by omega
        have h2 : (v : Int) < 21 := by omega
        have hok : (Arr.get k i).Base = (Arr.get k v).Base := by simpa using hok
        simp only [g_ref10_Check_r2, h1, decide_true, cond_true, (show (i : Int) < 21 by omega), Int.natCast_nonneg, Bool.and_self, h2, hok])
      (by simp [g_ref10_Check_r2])
  rw [lfp_all' (fun i => (((), (i : Int), ()), (k, ()), ())) 21 (okAt k) (.inl ((31, ()), (), ())) (.inr ((), (), ())) (by rfl)
    (fun i hi hok => by
      have h1 : (i : Int) < 21 := by omega
      have hin := inner i hi
      obtain ⟨hg, hb, hn⟩ := okAt_iff.1 hok
      have hb' : ¬ 32768 ≤ (Arr.get k i).Base := by have : (Arr.get k i).Base < 32768 := hb; omega
      rw [(allN_iff.2 fun j hj => by simpa using hn j hj : allN i (fun w => !decide (bas k w = bas k i)) = true)] at hin
      simp only [g_ref10_Check_r1, h1, decide_true, cond_true, Int.natCast_nonneg, Bool.and_self, hg, Bool.not_true, cond_false, hb', decide_false, hin, Option.bind_some, Sum.elim_inr, wrap1 i (by omega)])
    (fun i hi hok => by
      have h1 : (i : Int) < 21 := by omega
      have hin := inner i hi
      simp only [g_ref10_Check_r1, h1, decide_true, cond_true, Int.natCast_nonneg, Bool.and_self]
      cases hg : good (Arr.get k i) with
      | false => simp
      | true =>
        simp only [Bool.not_true, cond_false]
        by_cases hb : 32768 ≤ (Arr.get k i).Base
        · simp [hb]
        · have hfa : allN i (fun w => !decide (bas k w = bas k i)) = false := Bool.eq_false_iff.2 fun hn => by
            have : okAt k i = true := okAt_iff.2 ⟨hg, by show (Arr.get k i).Base < 32768; omega, fun w hw => by simpa using allN_iff.1 hn w hw⟩
            rw [this] at hok; cases hok
          rw [hfa] at hin
          simp only [hb, decide_false, cond_false, hin, Option.bind_some, Sum.elim_inl])
    (by simp [g_ref10_Check_r1])]
  simp only [Option.bind_some, chk, goodKeys]
  cases allN 21 (okAt k) <;> rfl
theorem free_at (_ : Keys) (f n : Int) (h1 : 1 ≤ f) (h2 : f ≤ 32768 - n) (h3 : 0 ≤ n) : IntKind.i64.wrap (f + n) = f + n := i64_in _ (by omega)
theorem eq_ratchet_free : Eqs c_ratchet_free g_ratchet_free := fun (k, f, n, _) y hf h => by
  change Int at f n
  simp only [guardK] at h
  have hn : 0 ≤ n ∧ n ≤ 32 := by
    cases hc : (decide (0 ≤ n) && decide (n ≤ 32)) with
    | true => simpa using hc
    | false => rw [hc] at h; cases h
  have hc : (decide (0 ≤ n) && decide (n ≤ 32)) = true := by simpa using hn
  rw [hc] at h
  simp only [cond_true] at h
  rw [← h]
  simp only [g_ratchet_free, free]
  rw [i64_in (32768 - n) (by omega)]
  by_cases g0 : n = 0
  · simp [g0]
  by_cases g1 : f < 1
  · have : ¬ 1 ≤ f := by omega
    simp [g0, g1, this]
  by_cases g2 : 32768 - n < f
  · have : ¬ f ≤ 32768 - n := by omega
    simp [g0, g1, g2, this]
  have g3 : 1 ≤ f := by omega
  have g4 : f ≤ 32768 - n := by omega
  simp only [g0, g1, g2, g3, g4, decide_false, decide_true, cond_false, Bool.false_or, Bool.true_and]
  rw [lfp_all' (fun i => ((f, n, k, (i : Int), ()), (), ())) 21 (fun v => !(decide (f ≤ bas k v) && decide (bas k v < f + n))) (.inl ((false, ()), (), ())) (.inr ((), (), ())) (by rfl)
    (fun i hi hok => by
      have h1 : (i : Int) < 21 := by omega
      simp only [g_ratchet_free_r1, h1, decide_true, cond_true, Int.natCast_nonneg, Bool.and_self, free_at k f n g3 g4 hn.1, wrap1 i (by omega)]
      by_cases a1 : f ≤ (Arr.get k i).Base
      · have a2 : ¬ (Arr.get k i).Base < f + n := by simp [bas, a1] at hok; omega
        simp [a1, a2]
      · simp [a1])
    (fun i hi hok => by
      have h1 : (i : Int) < 21 := by omega
      have hok : f ≤ (Arr.get k i).Base ∧ (Arr.get k i).Base < f + n := by simpa [bas] using hok
      simp only [g_ratchet_free_r1, h1, decide_true, cond_true, Int.natCast_nonneg, Bool.and_self, free_at k f n g3 g4 hn.1, hok.1, hok.2])
    (by simp [g_ratchet_free_r1])]
  simp only [Option.bind_some]
  cases allN 21 (fun v => !(decide (f ≤ bas k v) && decide (bas k v < f + n))) <;> rfl
end Go.Co.N
end

section
namespace Go.Co.N
open Go Go.Co

/-! ### Turns -/
/-- The keys behind a part of a turn: from node j on. -/
def mixed (k : Keys) (m f : Int) (j : Nat) : Keys := Arr.make fun w => if j ≤ w then turnedAt k m f w else Arr.get k (w : Int)
theorem mixed_21 (k : Keys) (m f : Int) : mixed k m f 21 = k := arr_ext fun i h0 h1 => by
  rw [mixed, get_make _ _ h0 h1, if_neg (by omega), Int.toNat_of_nonneg h0]
theorem mixed_0 (k : Keys) (m f : Int) : mixed k m f 0 = turned k m f := arr_ext fun i h0 h1 => by
  rw [mixed, turned, get_make _ _ h0 h1, get_make _ _ h0 h1, if_pos (by omega)]
theorem mixed_put (k : Keys) (m f : Int) (v : Nat) (hv : v < 21) : Arr.put (mixed k m f (v + 1)) (v : Int) (turnedAt k m f v) = mixed k m f v := arr_ext fun i h0 h1 => by
  rw [get_put _ _ _ _ (by omega) (by omega) h0]
  split
  · rename_i h; subst h
    rw [mixed, get_make _ _ h0 h1, if_pos (by omega)]; rfl
  · rename_i h
    rw [mixed, mixed, get_make _ _ h0 h1, get_make _ _ h0 h1]
    by_cases hi : v + 1 ≤ i.toNat
    · rw [if_pos hi, if_pos (by omega)]
    · rw [if_neg hi, if_neg (by omega)]
theorem mixed_get (k : Keys) (m f : Int) (v : Nat) (hv : v < 21) : Arr.get (mixed k m f (v + 1)) (v : Int) = Arr.get k (v : Int) := by
  rw [mixed, get_make _ _ (by omega) (by omega), if_neg (by omega)]; simp
theorem allN_rev (n : Nat) (p : Nat → Bool) : allN n (fun i => p (n - 1 - i)) = allN n p := bool_eq (by
  rw [allN_iff, allN_iff]
  exact ⟨fun h i hi => by have := h (n - 1 - i) (by omega); rwa [show n - 1 - (n - 1 - i) = i by omega] at this, fun h i hi => h _ (by omega)⟩)
theorem chk_0 {k : Keys} : chk k = 0 ↔ goodKeys k = true := by unfold chk; cases goodKeys k <;> simp
theorem ahead_1 {k : Key} (hg : good k = true) : ahead k 1 = if k.Step < 255 then (⟨k.Base, k.Step + 1⟩, 0) else (⟨0, 0⟩, 4) := by
  unfold ahead
  rw [if_pos hg]
  by_cases h : k.Step < 255
  · rw [if_pos ⟨by omega, by omega⟩, if_pos h]
  · rw [if_neg (by omega), if_neg h]
theorem free_cnt {k : Keys} {f n : Int} (h : free k f n = true) : n = 0 ∨ (1 ≤ f ∧ f ≤ 32768 - n ∧ ∀ v : Nat, v < 21 → ¬ (f ≤ bas k v ∧ bas k v < f + n)) := by
  unfold free at h
  simp only [Bool.or_eq_true, Bool.and_eq_true, decide_eq_true_eq, allN_iff] at h
  rcases h with h | ⟨⟨h1, h2⟩, h3⟩
  · exact .inl h
  · exact .inr ⟨h1, h2, fun v hv => by have := h3 v hv; simp at this; omega⟩
theorem cnt_in {m : Int} {v : Nat} (hv : v < 21) (h : inB m v = true) : cntTo m (v + 1) = cntTo m v + 1 ∧ cntTo m (v + 1) ≤ cntTo m 21 ∧ 0 ≤ cntTo m v := by
  refine ⟨by simp [cntTo, h], (cntTo_mono m (by omega)).1, (cntTo_le m v).1⟩
theorem bits_zero : ∀ (d n : Nat), n < 2 ^ d → bits d n = 0 → n = 0
  | 0, n, h, _ => by simpa using h
  | d + 1, n, h, hb => by
    simp only [bits] at hb
    have := bits_zero d (n / 2) (by rw [Nat.pow_succ] at h; omega) (by omega)
    omega
/-- No node beyond the inner ones: the mask is small. -/
theorem small_iff {m : Int} (h0 : 0 ≤ m) (h1 : m ≤ 4294967295) : allN 11 (fun i => !inB m ((21 + i : Nat) : Int)) = true ↔ m < 2097152 := by
  rw [allN_iff]
  constructor
  · intro h
    obtain ⟨n, rfl⟩ := Int.eq_ofNat_of_zero_le h0
    have hc : ∀ d, d ≤ 11 → cntTo (n : Int) (21 + d) = cntTo (n : Int) 21 := by
      intro d
      induction d with
      | zero => simp
      | succ d ih =>
        intro hd
        show cntTo (n : Int) (21 + d) + (if inB (n : Int) ((21 + d : Nat) : Int) = true then 1 else 0) = _
        have := h d (by omega)
        simp only [Bool.not_eq_true'] at this
        rw [ih (by omega), this, if_neg (by simp), Int.add_zero]
    have h32 := hc 11 (by omega)
    rw [← bits_cnt n 32 (by omega), ← bits_cnt n 21 (by omega), bits_add 21 11 n] at h32
    have := bits_zero 11 (n / 2 ^ 21) (by omega) (by omega)
    omega
  · intro h i hi
    rw [inB_big h0 (k := 21) (by omega) (by omega)]; rfl
theorem shr_21 {m : Int} (h0 : 0 ≤ m) : decide (shrI .u32 m 21 = 0) = decide (m < 2097152) := by
  rw [shr_u32 m 21 (by omega) (by omega)]
  congr 1
  simp only [eq_iff_iff]
  constructor
  · intro h; have : m / 2097152 = 0 := h; omega
  · intro h; show m / 2097152 = 0; omega

section
variable {k : Keys} {m f : Int} (hk : goodKeys k = true) (hm : 0 ≤ m ∧ m ≤ 4294967295) (hf : I64 f) (hfr : free k f (cntTo m 21) = true)
/-- The fresh name behind a part of a turn. -/
abbrev nameAt (m f : Int) (i : Nat) : Int := f + (cntTo m 21 - cntTo m (21 - i))
include hf hfr in
theorem name_next {i : Nat} (hi : i < 21) : nameAt m f (i + 1) = if inB m ((20 - i : Nat) : Int) = true then IntKind.i64.wrap (nameAt m f i + 1) else nameAt m f i := by
  have e : 21 - i = (20 - i) + 1 := by omega
  have e2 : 21 - (i + 1) = 20 - i := by omega
  split
  · rename_i hin
    obtain ⟨h1, h2, h3⟩ := cnt_in (by omega) hin
    have h4 := cntTo_le m 21
    rcases free_cnt hfr with h | ⟨h5, h6, _⟩
    · omega
    · simp only [nameAt, e, e2]
      rw [i64_in _ (by omega)]; omega
  · rename_i hin
    simp only [nameAt, e, e2, cntTo]
    rw [if_neg hin]; simp
include hk hm hf hfr in
theorem turn_loop_a : lfp g_ratchet_Turn_r1 ((m, f, (), (), 0, ()), (k, zeroK, ()), ()) =
    some (bif allN 21 (fun v => inB m v || decide (stp k v < 255)) then .inr ((f + cntTo m 21, (), (), ()), (turned k m f, zeroK, ()), ()) else .inl (((), 0, 4, ()), (zeroK, ()), ())) := by
  rw [← allN_rev 21 fun v => inB m v || decide (stp k v < 255)]
  refine lfp_all' (fun i => ((m, nameAt m f i, (), (), (i : Int), ()), (mixed k m f (21 - i), zeroK, ()), ())) 21 (fun i => inB m ((20 - i : Nat) : Int) || decide (stp k ((20 - i : Nat) : Int) < 255)) _ _ ?_ ?_ ?_ ?_
  · simp [nameAt, mixed_21]
  · intro i hi hok
    have h1 : (i : Int) < 21 := by omega
    have hw : IntKind.i64.wrap (20 - (i : Int)) = ((20 - i : Nat) : Int) := by rw [i64_in _ (by omega)]; omega
    have hr : (decide (0 ≤ ((20 - i : Nat) : Int)) && decide (((20 - i : Nat) : Int) < 21)) = true := inr (by omega) (Int.le_refl _)
    have hp := mixed_put k m f (20 - i) (by omega)
    have hgt := mixed_get k m f (20 - i) (by omega)
    have hnx := name_next hf hfr hi
    rw [show 20 - i + 1 = 21 - i by omega] at hp hgt
    have hpar := (goodKeys_iff.1 hk (20 - i) (by omega)).1
    simp only [g_ratchet_Turn_r1, h1, decide_true, cond_true, hw, hr, bit_in' m _ hm.1 hm.2 (show 0 ≤ ((20 - i : Nat) : Int) by omega) (show ((20 - i : Nat) : Int) < 32 by omega), wrap1 i (by omega), hgt, ahead_1 hpar]
    rw [show 21 - (i + 1) = 20 - i by omega]
    cases hin : inB m ((20 - i : Nat) : Int) with
    | true =>
      rw [hin, if_pos rfl] at hnx
      simp only [cond_true, hnx, ← hp, turnedAt, hin, if_true]
      rw [show 20 - i + 1 = 21 - i by omega]
    | false =>
      rw [hin, if_neg (by simp)] at hnx
      rw [hin] at hok
      have hs : (Arr.get k ((20 - i : Nat) : Int)).Step < 255 := by simpa using hok
      simp [hs, hnx, ← hp, turnedAt, hin]
  · intro i hi hok
    have h1 : (i : Int) < 21 := by omega
    have hw : IntKind.i64.wrap (20 - (i : Int)) = ((20 - i : Nat) : Int) := by rw [i64_in _ (by omega)]; omega
    have hr : (decide (0 ≤ ((20 - i : Nat) : Int)) && decide (((20 - i : Nat) : Int) < 21)) = true := inr (by omega) (Int.le_refl _)
    have hgt := mixed_get k m f (20 - i) (by omega)
    rw [show 20 - i + 1 = 21 - i by omega] at hgt
    have hpar := (goodKeys_iff.1 hk (20 - i) (by omega)).1
    have hok : inB m ((20 - i : Nat) : Int) = false ∧ ¬ (Arr.get k ((20 - i : Nat) : Int)).Step < 255 := by
      have := hok
      simp only [Bool.or_eq_false_iff, decide_eq_false_iff_not] at this; exact this
    simp only [g_ratchet_Turn_r1, h1, decide_true, cond_true, hw, hr, bit_in' m _ hm.1 hm.2 (show 0 ≤ ((20 - i : Nat) : Int) by omega) (show ((20 - i : Nat) : Int) < 32 by omega), hgt, ahead_1 hpar, hok.1, hok.2, cond_false, if_false]
    rfl
  · simp [g_ratchet_Turn_r1, mixed_0, nameAt, cntTo]
include hk hf hfr in
theorem turn_loop_b : lfp g_ref10_Turn_r3 ((m, f, (), (), 20, ()), (k, zeroK, ()), ()) =
    some (bif allN 21 (fun v => inB m v || decide (stp k v < 255)) then .inr ((f + cntTo m 21, (), (), ()), (turned k m f, zeroK, ()), ()) else .inl (((), 0, 4, ()), (zeroK, ()), ())) := by
  rw [← allN_rev 21 fun v => inB m v || decide (stp k v < 255)]
  refine lfp_all' (fun i => ((m, nameAt m f i, (), (), 20 - (i : Int), ()), (mixed k m f (21 - i), zeroK, ()), ())) 21 (fun i => inB m ((20 - i : Nat) : Int) || decide (stp k ((20 - i : Nat) : Int) < 255)) _ _ ?_ ?_ ?_ ?_
  · simp [nameAt, mixed_21]
  · intro i hi hok
    have h1 : 0 ≤ 20 - (i : Int) := by omega
    have hw : 20 - (i : Int) = ((20 - i : Nat) : Int) := by omega
    have hr : (decide (0 ≤ ((20 - i : Nat) : Int)) && decide (((20 - i : Nat) : Int) < 21)) = true := inr (by omega) (Int.le_refl _)
    have hp := mixed_put k m f (20 - i) (by omega)
    have hgt := mixed_get k m f (20 - i) (by omega)
    have hnx := name_next hf hfr hi
    rw [show 20 - i + 1 = 21 - i by omega] at hp hgt
    have hpar := (goodKeys_iff.1 hk (20 - i) (by omega)).1
    have hw2 : IntKind.i64.wrap (((20 - i : Nat) : Int) - 1) = 20 - ((i + 1 : Nat) : Int) := by rw [i64_in _ (by omega)]; omega
    simp only [g_ref10_Turn_r3, hw, hw2, cond_true, hr, hgt, ahead_1 hpar]
    rw [show 21 - (i + 1) = 20 - i by omega, decide_eq_true (show 0 ≤ ((20 - i : Nat) : Int) by omega)]
    simp only [cond_true]
    cases hin : inB m ((20 - i : Nat) : Int) with
    | true =>
      rw [hin, if_pos rfl] at hnx
      simp only [cond_true, hnx, ← hp, turnedAt, hin, if_true]
      rw [show 20 - i + 1 = 21 - i by omega]
    | false =>
      rw [hin, if_neg (by simp)] at hnx
      rw [hin] at hok
      have hs : (Arr.get k ((20 - i : Nat) : Int)).Step < 255 := by simpa using hok
      simp [hs, hnx, ← hp, turnedAt, hin]
  · intro i hi hok
    have hw : 20 - (i : Int) = ((20 - i : Nat) : Int) := by omega
    have hr : (decide (0 ≤ ((20 - i : Nat) : Int)) && decide (((20 - i : Nat) : Int) < 21)) = true := inr (by omega) (Int.le_refl _)
    have hgt := mixed_get k m f (20 - i) (by omega)
    rw [show 20 - i + 1 = 21 - i by omega] at hgt
    have hpar := (goodKeys_iff.1 hk (20 - i) (by omega)).1
    have hok : inB m ((20 - i : Nat) : Int) = false ∧ ¬ (Arr.get k ((20 - i : Nat) : Int)).Step < 255 := by
      have := hok
      simp only [Bool.or_eq_false_iff, decide_eq_false_iff_not] at this; exact this
    simp only [g_ref10_Turn_r3, hw, show 0 ≤ ((20 - i : Nat) : Int) by omega, show ((20 - i : Nat) : Int) < 21 by omega, decide_true, Bool.and_self, cond_true, hgt, ahead_1 hpar, hok.1, hok.2, cond_false, if_false]
    rfl
  · simp [g_ref10_Turn_r3, mixed_0, nameAt, cntTo]
end
theorem eq_ratchet_Turn : Eqs c_ratchet_Turn g_ratchet_Turn := Eqs.tot fun (k, m, f, _) hf => by
  change Int at m f
  have hm : 0 ≤ m ∧ m ≤ 4294967295 := fine_u32.1 hf.2.1
  have hff : I64 f := fine_i.1 hf.2.2.1
  simp only [g_ratchet_Turn, turn, chk_0, shr_21 hm.1]
  by_cases hk : goodKeys k = true
  · by_cases hs : m < 2097152
    · have hc : cntTo m 32 = cntTo m 21 := cntTo_small hm.1 (k := 21) (by omega) 11
      have hle := cntTo_le m 21
      have hr : (decide (0 ≤ cntTo m 21) && decide (cntTo m 21 ≤ 32)) = true := by simp; omega
      simp only [hk, hs, decide_true, Bool.not_true, cond_false, hc, hr, cond_true, Option.bind_some]
      cases hfr : free k f (cntTo m 21) with
      | false => simp
      | true =>
        simp only [Bool.not_true, cond_false, cond_true]
        have := turn_loop_a hk hm hff hfr
        rw [show (Vector.replicate 21 (St.zero St.key) : Keys) = zeroK from rfl, this]
        cases allN 21 (fun v => inB m v || decide (stp k v < 255)) <;> rfl
    · simp [hk, hs]
  · simp [hk]
theorem eq_ref10_Turn : Eqs c_ref10_Turn g_ref10_Turn := Eqs.tot fun (k, m, f, _) hf => by
  change Int at m f
  have hm : 0 ≤ m ∧ m ≤ 4294967295 := fine_u32.1 hf.2.1
  have hff : I64 f := fine_i.1 hf.2.2.1
  simp only [g_ref10_Turn, turn, chk_0]
  by_cases hk : goodKeys k = true
  · simp only [hk, decide_true, Bool.not_true, cond_false, cond_true]
    rw [lfp_all' (fun i => ((m, f, (), (), ((21 + i : Nat) : Int), ()), (k, zeroK, ()), ())) 11 (fun i => !inB m ((21 + i : Nat) : Int)) (.inl (((), 0, 2, ()), (zeroK, ()), ())) (.inr ((m, f, (), (), ()), (k, zeroK, ()), ())) (by simp)
      (fun i hi hok => by
        have h1 : ((21 + i : Nat) : Int) < 32 := by omega
        have hok : inB m ((21 + i : Nat) : Int) = false := by simpa using hok
        simp only [g_ref10_Turn_r1, h1, hok, decide_true, cond_true, cond_false, wrap1 (21 + i) (by omega)]; rfl)
      (fun i hi hok => by
        have h1 : ((21 + i : Nat) : Int) < 32 := by omega
        have hok : inB m ((21 + i : Nat) : Int) = true := by simpa using hok
        simp only [g_ref10_Turn_r1, h1, hok, decide_true, cond_true])
      (by simp [g_ref10_Turn_r1])]
    simp only [Option.bind_some]
    by_cases hs : m < 2097152
    · rw [(small_iff hm.1 hm.2).2 hs]
      simp only [hs, decide_true, cond_true, Sum.elim_inr]
      have hle := cntTo_le m 21
      have r2 : 0 < cntTo m 21 → 1 ≤ f → f ≤ 32768 - cntTo m 21 → lfp g_ref10_Turn_r2 ((m, f, (), (), cntTo m 21, 0, ()), (k, zeroK, ()), ()) =
          some (bif allN 21 (fun v => !(decide (f ≤ bas k v) && decide (bas k v < f + cntTo m 21))) then .inr ((m, f, (), (), ()), (k, zeroK, ()), ()) else .inl (((), 0, 3, ()), (zeroK, ()), ())) := fun hp h1 h2 => by
        have hw : IntKind.i64.wrap (f + cntTo m 21) = f + cntTo m 21 := i64_in _ (by omega)
        refine lfp_all' (fun i => ((m, f, (), (), cntTo m 21, (i : Int), ()), (k, zeroK, ()), ())) 21 _ _ _ rfl ?_ ?_ ?_
        · intro i hi hok
          have h1 : (i : Int) < 21 := by omega
          simp only [g_ref10_Turn_r2, h1, hp, decide_true, cond_true, Int.natCast_nonneg, Bool.and_self, hw, wrap1 i (by omega)]
          by_cases a1 : f ≤ (Arr.get k i).Base
          · have a2 : ¬ (Arr.get k i).Base < f + cntTo m 21 := by simp [bas, a1] at hok; omega
            simp [a1, a2]
          · simp [a1]
        · intro i hi hok
          have h1 : (i : Int) < 21 := by omega
          have hok : f ≤ (Arr.get k i).Base ∧ (Arr.get k i).Base < f + cntTo m 21 := by simpa [bas] using hok
          simp only [g_ref10_Turn_r2, h1, hp, decide_true, cond_true, Int.natCast_nonneg, Bool.and_self, hw, hok.1, hok.2]
        · simp [g_ref10_Turn_r2]
      have r20 : cntTo m 21 = 0 → lfp g_ref10_Turn_r2 ((m, f, (), (), 0, 0, ()), (k, zeroK, ()), ()) = some (.inr ((m, f, (), (), ()), (k, zeroK, ()), ())) := fun h => lfp_inr (by simp [g_ref10_Turn_r2])
      have zk : (Vector.replicate 21 (St.zero St.key) : Keys) = zeroK := rfl
      by_cases hp : 0 < cntTo m 21
      · simp only [hp, decide_true, cond_true]
        rw [i64_in _ (by omega)]
        by_cases g1 : f < 1
        · have : free k f (cntTo m 21) = false := by
            have h0 : ¬ cntTo m 21 = 0 := by omega
            have h1 : ¬ 1 ≤ f := by omega
            simp [free, h0, h1]
          simp [g1, this, zk]
        · by_cases g2 : 32768 - cntTo m 21 < f
          · have : free k f (cntTo m 21) = false := by
              have h0 : ¬ cntTo m 21 = 0 := by omega
              have h1 : ¬ f ≤ 32768 - cntTo m 21 := by omega
              simp [free, h0, h1]
            simp [g1, g2, this, zk]
          · simp only [g1, g2, decide_false, cond_false]
            rw [r2 hp (by omega) (by omega)]
            have hfe : free k f (cntTo m 21) = allN 21 (fun v => !(decide (f ≤ bas k v) && decide (bas k v < f + cntTo m 21))) := by
              have h0 : ¬ cntTo m 21 = 0 := by omega
              have h1 : 1 ≤ f := by omega
              have h2 : f ≤ 32768 - cntTo m 21 := by omega
              simp [free, h0, h1, h2]
            rw [hfe]
            cases hall : allN 21 (fun v => !(decide (f ≤ bas k v) && decide (bas k v < f + cntTo m 21))) with
            | false => simp
            | true =>
              simp only [cond_true, Option.bind_some, Sum.elim_inr]
              rw [turn_loop_b hk hff (by rw [hfe, hall])]
              cases allN 21 (fun v => inB m v || decide (stp k v < 255)) <;> rfl
      · have h0 : cntTo m 21 = 0 := by omega
        have hfr : free k f (cntTo m 21) = true := by simp [free, h0]
        simp only [hp, decide_false, cond_false, hfr, cond_true]
        rw [h0, r20 h0]
        simp only [Option.bind_some, Sum.elim_inr]
        rw [turn_loop_b hk hff hfr, h0]
        cases allN 21 (fun v => inB m v || decide (stp k v < 255)) <;> rfl
    · rw [Bool.eq_false_iff.2 fun h => hs ((small_iff hm.1 hm.2).1 h)]; simp [hs]
  · simp [hk]

/-! ### Leaves, paths -/
theorem eq_ratchet_LeafAt : Eqs c_ratchet_LeafAt g_ratchet_LeafAt := Eqs.tot fun (e, n, _) hf => by
  change Int at n
  have hn : n ≤ 9223372036854775807 := (fine_i.1 hf.2.1).2
  simp only [g_ratchet_LeafAt, leafAt]
  by_cases h0 : e.Base = 0
  · simp [h0]
  by_cases h1 : e.Base < 1 ∨ 32768 ≤ e.Base ∨ e.Since < 1 ∨ 200 < e.Since
  · rw [if_neg h0, if_pos h1]
    rcases h1 with h1 | h1 | h1 | h1
    · have : e.Base < 0 := by omega
      simp [h0, this]
    · simp [h0, h1]
    · simp [h0, h1]
    · simp [h0, h1]
  · rw [if_neg h0, if_neg h1]
    have g1 : ¬ e.Base < 0 := by omega
    have g2 : ¬ 32768 ≤ e.Base := by omega
    have g3 : ¬ e.Since < 1 := by omega
    have g4 : ¬ 200 < e.Since := by omega
    by_cases h2 : n < e.Since
    · simp [h0, g1, g2, g3, g4, h2]
    · simp only [h0, g1, g2, g3, g4, h2, decide_false, cond_false, if_false]
      rw [i64_in _ (by omega)]
      have hg : good ⟨e.Base, 0⟩ = true := good_iff.2 ⟨by simp only; omega, by simp only; omega, by simp, by simp⟩
      unfold ahead
      rw [if_pos hg]
      by_cases h3 : e.Since + 255 < n
      · rw [if_pos h3, if_neg (by simp only; omega)]
      · rw [if_neg h3, if_pos (by simp only; omega)]; simp
theorem eq_ref10_LeafAt : Eqs c_ref10_LeafAt g_ref10_LeafAt := Eqs.tot fun (e, n, _) hf => by
  change Int at n
  have hn : n ≤ 9223372036854775807 := (fine_i.1 hf.2.1).2
  simp only [g_ref10_LeafAt, leafAt]
  by_cases h0 : e.Base = 0
  · simp [h0]
  by_cases h1 : e.Base < 1 ∨ 32768 ≤ e.Base ∨ e.Since < 1 ∨ 200 < e.Since
  · rw [if_neg h0, if_pos h1]
    rcases h1 with h1 | h1 | h1 | h1 <;> simp [h0, h1]
  · rw [if_neg h0, if_neg h1]
    have g1 : ¬ e.Base < 1 := by omega
    have g2 : ¬ 32768 ≤ e.Base := by omega
    have g3 : ¬ e.Since < 1 := by omega
    have g4 : ¬ 200 < e.Since := by omega
    by_cases h2 : n < e.Since
    · simp [h0, g1, g2, g3, g4, h2]
    · simp only [h0, g1, g2, g3, g4, h2, decide_false, cond_false, if_false]
      rw [i64_in _ (by omega), i64_in _ (by omega)]
      by_cases h3 : e.Since + 255 < n <;> simp [h3]
theorem ahead_e (k : Key) (n : Int) : (ahead k n).2 = 0 ∨ (ahead k n).2 = 3 ∨ (ahead k n).2 = 4 := by
  unfold ahead; split
  · split <;> simp
  · simp
theorem ahead_3 (k : Key) (n : Int) : (ahead k n).2 = 3 ↔ good k = false := by
  unfold ahead; cases good k <;> simp
  split <;> simp
theorem eq_ratchet_Follow : Eqs c_ratchet_Follow g_ratchet_Follow := Eqs.tot fun (k, n, _) _ => by
  change Int at n
  simp only [g_ratchet_Follow]
  have w1 : IntKind.i64.wrap (0 + 1) = 1 := by decide
  have w2 : IntKind.i64.wrap (1 + 1) = 2 := by decide
  have w3 : IntKind.i64.wrap (2 + 1) = 3 := by decide
  rw [lfp_step]
  unfold follow
  rcases ahead_e (Arr.get k 0) n with h0 | h0 | h0 <;> simp only [g_ratchet_Follow_r1, h0] <;> simp only [w1] <;> simp
  · rw [lfp_step]
    rcases ahead_e (Arr.get k 1) n with h1 | h1 | h1 <;> simp only [g_ratchet_Follow_r1, h1] <;> simp only [w2] <;> simp
    · rw [lfp_step]
      rcases ahead_e (Arr.get k 2) n with h2 | h2 | h2 <;> simp only [g_ratchet_Follow_r1, h2] <;> simp only [w3] <;> simp
      · rw [lfp_step]; simp [g_ratchet_Follow_r1]
      · rw [lfp_step]; simp [g_ratchet_Follow_r1]
    · rw [lfp_step]
      rcases ahead_e (Arr.get k 2) n with h2 | h2 | h2 <;> simp only [g_ratchet_Follow_r1, h2] <;> simp only [w3] <;> simp
      · rw [lfp_step]; simp [g_ratchet_Follow_r1]
      · rw [lfp_step]; simp [g_ratchet_Follow_r1]
  · rw [lfp_step]
    rcases ahead_e (Arr.get k 1) n with h1 | h1 | h1 <;> simp only [g_ratchet_Follow_r1, h1] <;> simp only [w2] <;> simp
    · rw [lfp_step]
      rcases ahead_e (Arr.get k 2) n with h2 | h2 | h2 <;> simp only [g_ratchet_Follow_r1, h2] <;> simp only [w3] <;> simp
      · rw [lfp_step]; simp [g_ratchet_Follow_r1]
      · rw [lfp_step]; simp [g_ratchet_Follow_r1]
    · rw [lfp_step]
      rcases ahead_e (Arr.get k 2) n with h2 | h2 | h2 <;> simp only [g_ratchet_Follow_r1, h2] <;> simp only [w3] <;> simp
      · rw [lfp_step]; simp [g_ratchet_Follow_r1]
      · rw [lfp_step]; simp [g_ratchet_Follow_r1]
theorem eq_ref10_Follow : Eqs c_ref10_Follow g_ref10_Follow := Eqs.tot fun (k, n, _) _ => by
  change Int at n
  simp only [g_ref10_Follow]
  have w1 : IntKind.i64.wrap (0 + 1) = 1 := by decide
  have w2 : IntKind.i64.wrap (1 + 1) = 2 := by decide
  have w3 : IntKind.i64.wrap (2 + 1) = 3 := by decide
  unfold follow
  rw [lfp_step]
  cases g0 : good (Arr.get k 0) with
  | false =>
    have h0 := (ahead_3 _ n).2 g0
    simp [g_ref10_Follow_r1, g0, h0]
  | true =>
    have h0 : ¬ (ahead (Arr.get k 0) n).2 = 3 := fun h => by rw [(ahead_3 _ n).1 h] at g0; cases g0
    simp only [g_ref10_Follow_r1, g0]; simp only [w1]; simp
    rw [lfp_step]
    cases g1 : good (Arr.get k 1) with
    | false =>
      have h1 := (ahead_3 _ n).2 g1
      simp [g_ref10_Follow_r1, g1, h1]
    | true =>
      have h1 : ¬ (ahead (Arr.get k 1) n).2 = 3 := fun h => by rw [(ahead_3 _ n).1 h] at g1; cases g1
      simp only [g_ref10_Follow_r1, g1]; simp only [w2]; simp
      rw [lfp_step]
      cases g2 : good (Arr.get k 2) with
      | false =>
        have h2 := (ahead_3 _ n).2 g2
        simp [g_ref10_Follow_r1, g2, h2]
      | true =>
        have h2 : ¬ (ahead (Arr.get k 2) n).2 = 3 := fun h => by rw [(ahead_3 _ n).1 h] at g2; cases g2
        simp only [g_ref10_Follow_r1, g2]; simp only [w3]; simp
        rw [lfp_step]
        simp [g_ref10_Follow_r1, h0, h1, h2]
        rw [lfp_step]
        rcases ahead_e (Arr.get k 0) n with e0 | e0 | e0
        · simp only [g_ref10_Follow_r2, e0]; simp only [w1]; simp
          rw [lfp_step]
          rcases ahead_e (Arr.get k 1) n with e1 | e1 | e1
          · simp only [g_ref10_Follow_r2]; rw [get_put_ne _ _ _ _ (by decide)]; simp only [e1]; simp only [w2]; simp
            rw [lfp_step]
            rcases ahead_e (Arr.get k 2) n with e2 | e2 | e2
            · simp only [g_ref10_Follow_r2]; rw [get_put_ne _ _ _ _ (by decide), get_put_ne _ _ _ _ (by decide)]; simp only [e2]; simp only [w3]; simp
              rw [lfp_step]; simp [g_ref10_Follow_r2]
            · exact absurd e2 h2
            · simp only [g_ref10_Follow_r2]; rw [get_put_ne _ _ _ _ (by decide), get_put_ne _ _ _ _ (by decide)]; simp only [e2]; simp
          · exact absurd e1 h1
          · simp only [g_ref10_Follow_r2]; rw [get_put_ne _ _ _ _ (by decide)]; simp only [e1]; simp
        · exact absurd e0 h0
        · simp only [g_ref10_Follow_r2, e0]; simp
end Go.Co.N
end

section
namespace Go.Co.N
open Go Go.Co

theorem eq_law10_plain : Eqs c_law10_plain g_law10_plain := Eqs.tot fun (s, _) _ => by
  change Int at s
  simp only [g_law10_plain]
  rw [lfp_run' (fun i => ((s, (), (), (i : Int), ()), (zeroK, fillTo St.key.zero (fun v => ⟨v + 1, s⟩) i, ()), ())) 21 (by rw [fill_0]; rfl) fun i hi => by
    have h1 : (i : Int) < 21 := by omega
    simp only [g_law10_plain_r1, h1, decide_true, cond_true, Int.natCast_nonneg, Bool.and_self, wrap1 i (by omega)]
    rw [← fill_put _ _ _ hi]; simp]
  rw [lfp_inr (z := (((), (), ()), (zeroK, plain s, ()), ())) (by simp [g_law10_plain_r1, fill_n, plain])]
  simp
theorem eq_law10_lives : Eqs c_law10_lives g_law10_lives := fun _ _ _ h => h
theorem turn_ok {k : Keys} {m f : Int} (h : (turn k m f).2.2 = 0) : goodKeys k = true ∧ m < 2097152 ∧ free k f (cntTo m 21) = true ∧ (∀ v : Nat, v < 21 → inB m v = true ∨ stp k v < 255) ∧ turn k m f = (turned k m f, f + cntTo m 21, 0) := by
  unfold turn at h ⊢
  cases h1 : goodKeys k with
  | false => rw [h1] at h; simp at h
  | true =>
    by_cases h2 : m < 2097152
    · cases h3 : free k f (cntTo m 21) with
      | false => rw [h1, h3] at h; simp [h2] at h
      | true =>
        cases h4 : allN 21 (fun v => inB m v || decide (stp k v < 255)) with
        | false => rw [h1, h3, h4] at h; simp [h2] at h
        | true =>
          refine ⟨rfl, h2, rfl, fun v hv => ?_, by simp [h2]⟩
          have := allN_iff.1 h4 v hv
          simpa using this
    · rw [h1] at h; simp [h2] at h
theorem turn_bad {k : Keys} {m f : Int} (h : ¬ (turn k m f).2.2 = 0) : (turn k m f).1 = zeroK ∧ (turn k m f).2.1 = 0 := by
  unfold turn at h ⊢
  cases h1 : goodKeys k <;> cases h2 : decide (m < 2097152) <;> cases h3 : free k f (cntTo m 21) <;> cases h4 : allN 21 (fun v => inB m v || decide (stp k v < 255)) <;> simp [h1, h2, h3, h4] at h ⊢
theorem turned_get (k : Keys) (m f : Int) (v : Nat) (hv : v < 21) : Arr.get (turned k m f) (v : Int) = turnedAt k m f v := by
  rw [turned, get_make _ _ (by omega) (by omega)]; simp
section
variable {k : Keys} {m f : Int} (hk : goodKeys k = true) (hfr : free k f (cntTo m 21) = true) (hst : ∀ v : Nat, v < 21 → inB m v = true ∨ stp k v < 255)
include hfr in
theorem fresh_bounds {v : Nat} (hv : v < 21) (hin : inB m v = true) : f ≤ (turnedAt k m f v).Base ∧ (turnedAt k m f v).Base < f + cntTo m 21 ∧ 1 ≤ f ∧ f + cntTo m 21 ≤ 32768 ∧ (turnedAt k m f v).Step = 0 ∧ ∀ w : Nat, w < 21 → bas k w ≠ (turnedAt k m f v).Base := by
  obtain ⟨h1, h2, h3⟩ := cnt_in hv hin
  rcases free_cnt hfr with h | ⟨h5, h6, h7⟩
  · omega
  · unfold turnedAt
    rw [if_pos hin]
    refine ⟨?_, ?_, h5, ?_, rfl, fun w hw he => h7 w hw ?_⟩
    · simp only; omega
    · simp only; omega
    · omega
    · rw [he]; simp only; omega
theorem kept_at {v : Nat} (hin : ¬ inB m v = true) : turnedAt k m f v = ⟨bas k v, stp k v + 1⟩ := by unfold turnedAt; rw [if_neg hin]
include hk hfr hst in
theorem good_turnedAt {v : Nat} (hv : v < 21) : good (turnedAt k m f v) = true ∧ (turnedAt k m f v).Base < 32768 := by
  by_cases hin : inB m v = true
  · have := fresh_bounds hfr (k := k) hv hin
    exact ⟨good_iff.2 ⟨by omega, by omega, by omega, by omega⟩, by omega⟩
  · have h := goodKeys_iff.1 hk v hv
    have hg := good_iff.1 h.1
    have hs : stp k v < 255 := (hst v hv).resolve_left hin
    rw [kept_at hin]
    exact ⟨good_iff.2 ⟨hg.1, hg.2.1, by simp only [stp]; omega, by simp only [stp] at hs ⊢; omega⟩, h.2.1⟩
include hk hfr in
theorem turned_ne {v w : Nat} (hv : v < 21) (hw : w < v) : (turnedAt k m f w).Base ≠ (turnedAt k m f v).Base := by
  by_cases hin : inB m v = true
  · have hb := fresh_bounds hfr (k := k) hv hin
    by_cases hin2 : inB m w = true
    · have h1 := cnt_in hv hin
      have h2 := (cntTo_mono m (show w + 1 ≤ v by omega)).1
      unfold turnedAt
      rw [if_pos hin, if_pos hin2]
      simp only; omega
    · rw [kept_at hin2]
      exact hb.2.2.2.2.2 w (by omega)
  · rw [kept_at hin]
    by_cases hin2 : inB m w = true
    · have hb := fresh_bounds hfr (k := k) (v := w) (by omega) hin2
      exact fun he => hb.2.2.2.2.2 v hv he.symm
    · rw [kept_at hin2]
      exact (goodKeys_iff.1 hk v hv).2.2 w hw
include hk hfr hst in
theorem goodKeys_turned : goodKeys (turned k m f) = true := goodKeys_iff.2 fun v hv => by
  have h := good_turnedAt hk hfr hst hv
  simp only [bas]
  rw [turned_get _ _ _ _ hv]
  refine ⟨h.1, h.2, fun w hw => ?_⟩
  rw [turned_get _ _ _ _ (by omega)]
  exact turned_ne hk hfr hv hw
end
theorem eq_law10_RatchetTurns : Eqs c_law10_RatchetTurns g_law10_RatchetTurns := Eqs.tot fun (k, m, f, _) _ => by
  change Int at m f
  simp only [g_law10_RatchetTurns, decide_true, Bool.not_true, cond_false, cond_true]
  by_cases h : (turn k m f).2.2 = 0
  · obtain ⟨h1, h2, h3, h4, h5⟩ := turn_ok h
    rw [h5]
    simp [chk_0, goodKeys_turned h1 h3 h4]
  · simp [h]
theorem eq_law10_RatchetOneWay : Eqs c_law10_RatchetOneWay g_law10_RatchetOneWay := Eqs.tot fun (k, m, f, _) hf => by
  change Int at m f
  have hm : 0 ≤ m ∧ m ≤ 4294967295 := fine_u32.1 hf.2.1
  simp only [g_law10_RatchetOneWay]
  by_cases h : (turn k m f).2.2 = 0
  · obtain ⟨hk, h2, hfr, hst, h5⟩ := turn_ok h
    rw [h5]
    simp only [decide_true, Bool.not_true, cond_false]
    have kk := goodKeys_iff.1 hk
    have dist : ∀ v w : Nat, v < 21 → w < 21 → bas k w = bas k v → w = v := fun v w hv hw he => by
      rcases Nat.lt_trichotomy w v with hlt | he' | hlt
      · exact absurd he ((kk v hv).2.2 w hlt)
      · exact he'
      · exact absurd he.symm ((kk w hw).2.2 v hlt)
    have inner : ∀ v : Nat, v < 21 → lfp g_law10_RatchetOneWay_r2 ((m, (), (), (v : Int), 0, ()), (k, turned k m f, ()), ()) = some (.inr ((m, (), (), (v : Int), ()), (k, turned k m f, ()), ())) := fun v hv => by
      rw [lfp_run' (fun i => ((m, (), (), (v : Int), (i : Int), ()), (k, turned k m f, ()), ())) 21 (by rfl) fun w hw => by
        have h1 : (w : Int) < 21 := by omega
        have h2 : (v : Int) < 21 := by omega
        have g1 : gives (turnedAt k m f w) (Arr.get k v) = false := Bool.eq_false_iff.2 fun hg => by
          obtain ⟨_, _, hb, hs⟩ := gives_iff.1 hg
          by_cases hin : inB m w = true
          · exact (fresh_bounds hfr (k := k) hw hin).2.2.2.2.2 v hv hb.symm
          · rw [kept_at hin] at hb hs
            have := dist v w hv hw hb
            subst this
            simp only [stp] at hs; omega
        have g2 : ¬ w = v → gives (Arr.get k w) (turnedAt k m f v) = false := fun hne => Bool.eq_false_iff.2 fun hg => by
          obtain ⟨_, _, hb, _⟩ := gives_iff.1 hg
          by_cases hin : inB m v = true
          · exact (fresh_bounds hfr (k := k) hv hin).2.2.2.2.2 w hw hb
          · rw [kept_at hin] at hb
            exact hne (dist v w hv hw hb)
        simp only [g_law10_RatchetOneWay_r2, h1, decide_true, cond_true, Int.natCast_nonneg, Bool.and_self, h2, turned_get _ _ _ _ hw, turned_get _ _ _ _ hv, g1, cond_false, wrap1 w (by omega)]
        by_cases hwv : w = v
        · subst hwv; simp
        · have : ¬ (w : Int) = v := by omega
          simp [this, g2 hwv]]
      exact lfp_inr (by simp [g_law10_RatchetOneWay_r2])
    rw [lfp_run' (fun i => ((m, (), (), (i : Int), ()), (k, turned k m f, ()), ())) 21 (by rfl) fun v hv => by
      have h1 : (v : Int) < 21 := by omega
      have hg : gives (Arr.get k v) (turnedAt k m f v) = !inB m v := by
        by_cases hin : inB m v = true
        · rw [hin]
          exact Bool.eq_false_iff.2 fun hg => (fresh_bounds hfr (k := k) hv hin).2.2.2.2.2 v hv (gives_iff.1 hg).2.2.1
        · have : gives (Arr.get k v) (turnedAt k m f v) = true := gives_iff.2 ⟨(kk v hv).1, (good_turnedAt hk hfr hst hv).1, by rw [kept_at hin], by rw [kept_at hin]; simp only [stp]; omega⟩
          rw [this]; simp [hin]
      simp only [g_law10_RatchetOneWay_r1, h1, decide_true, cond_true, Int.natCast_nonneg, Bool.and_self, turned_get _ _ _ _ hv, bit_in' m _ hm.1 hm.2 (show 0 ≤ (v : Int) by omega) (show (v : Int) < 32 by omega), hg, inner v hv, Option.bind_some, Sum.elim_inr, wrap1 v (by omega)]
      cases hin : inB m v with
      | true =>
        have := (fresh_bounds hfr (k := k) hv hin).2.2.2.2.1
        simp [this]
      | false => simp]
    rw [lfp_inr (z := .inr ((), (), ())) (by simp [g_law10_RatchetOneWay_r1])]
    simp
  · obtain ⟨h1, h2⟩ := turn_bad h
    rw [show (Vector.replicate 21 (St.zero St.key) : Keys) = zeroK from rfl]
    simp [h, h1, h2]
theorem eq_law10_RatchetOrder : Eqs c_law10_RatchetOrder g_law10_RatchetOrder := Eqs.tot fun (k, m, f, _) hf => by
  change Int at m f
  have hm : 0 ≤ m ∧ m ≤ 4294967295 := fine_u32.1 hf.2.1
  have hff : I64 f := fine_i.1 hf.2.2.1
  simp only [g_law10_RatchetOrder]
  by_cases h : (turn k m f).2.2 = 0
  · obtain ⟨hk, h2, hfr, hst, h5⟩ := turn_ok h
    rw [h5]
    simp only [decide_true, Bool.not_true, cond_false]
    rw [lfp_run' (fun i => ((m, (), f + cntTo m 21, nameAt m f i, 20 - (i : Int), ()), (turned k m f, ()), ())) 21 (by simp [nameAt]) fun i hi => by
      have hw : 20 - (i : Int) = ((20 - i : Nat) : Int) := by omega
      have hr : (decide (0 ≤ ((20 - i : Nat) : Int)) && decide (((20 - i : Nat) : Int) < 21)) = true := inr (by omega) (Int.le_refl _)
      have hw2 : IntKind.i64.wrap (((20 - i : Nat) : Int) - 1) = 20 - ((i + 1 : Nat) : Int) := by rw [i64_in _ (by omega)]; omega
      have hnx := name_next hff hfr hi
      simp only [g_law10_RatchetOrder_r1, hw, hw2, show 0 ≤ ((20 - i : Nat) : Int) by omega, show ((20 - i : Nat) : Int) < 21 by omega, decide_true, Bool.and_self, cond_true, bit_in' m _ hm.1 hm.2 (show 0 ≤ ((20 - i : Nat) : Int) by omega) (show ((20 - i : Nat) : Int) < 32 by omega), turned_get _ _ _ (20 - i) (by omega)]
      cases hin : inB m ((20 - i : Nat) : Int) with
      | true =>
        rw [hin, if_pos rfl] at hnx
        have : turnedAt k m f (20 - i) = ⟨nameAt m f i, 0⟩ := by
          unfold turnedAt; rw [if_pos hin, show 20 - i + 1 = 21 - i by omega]
        simp [this, hnx]
      | false =>
        rw [hin, if_neg (by simp)] at hnx
        simp [hnx]]
    rw [lfp_inr (z := .inr ((f + cntTo m 21, f + cntTo m 21, ()), (), ())) (by simp [g_law10_RatchetOrder_r1, nameAt, cntTo])]
    simp
  · simp [h]
theorem eq_law10_RatchetFollows : Eqs c_law10_RatchetFollows g_law10_RatchetFollows := Eqs.tot fun (k, n, _) _ => by simp [g_law10_RatchetFollows]
theorem eq_law10_RatchetLeaves : Eqs c_law10_RatchetLeaves g_law10_RatchetLeaves := Eqs.tot fun (e, n, _) hf => by
  change Int at n
  have hn : I64 n := fine_i.1 hf.2.1
  simp only [g_law10_RatchetLeaves]
  by_cases h1 : (leafAt e n).2 = 0
  · by_cases h2 : 200 ≤ n
    · simp [h2]
    · have hok : leafAt e n = (⟨e.Base, n - e.Since⟩, 0) ∧ leafAt e (n + 1) = (⟨e.Base, n + 1 - e.Since⟩, 0) ∧ 1 ≤ e.Base ∧ e.Base ≤ 32767 ∧ e.Since ≤ n ∧ n ≤ e.Since + 254 := by
        unfold leafAt at h1 ⊢
        by_cases g0 : e.Base = 0
        · rw [if_pos g0] at h1; simp at h1
        rw [if_neg g0] at h1
        by_cases g1 : e.Base < 1 ∨ 32768 ≤ e.Base ∨ e.Since < 1 ∨ 200 < e.Since
        · rw [if_pos g1] at h1; simp at h1
        rw [if_neg g1] at h1
        by_cases g2 : n < e.Since
        · rw [if_pos g2] at h1; simp at h1
        rw [if_neg g2] at h1
        by_cases g3 : e.Since + 255 < n
        · rw [if_pos g3] at h1; simp at h1
        have g4 : ¬ n + 1 < e.Since := by omega
        have g5 : ¬ e.Since + 255 < n + 1 := by omega
        refine ⟨by rw [if_neg g0, if_neg g1, if_neg g2, if_neg g3], by rw [if_neg g0, if_neg g1, if_neg g4, if_neg g5], by omega, by omega, by omega, by omega⟩
      obtain ⟨q1, q2, q3, q4, q5, q6⟩ := hok
      rw [i64_in _ (by omega), q2, q1]
      have ga : good ⟨e.Base, n - e.Since⟩ = true := good_iff.2 ⟨q3, by simp only; omega, by simp only; omega, by simp only; omega⟩
      have gb : good ⟨e.Base, n + 1 - e.Since⟩ = true := good_iff.2 ⟨q3, by simp only; omega, by simp only; omega, by simp only; omega⟩
      have k1 : gives ⟨e.Base, n - e.Since⟩ ⟨e.Base, n + 1 - e.Since⟩ = true := by simp [gives, ga, gb]; omega
      have k2 : gives ⟨e.Base, n + 1 - e.Since⟩ ⟨e.Base, n - e.Since⟩ = false := by simp [gives, ga, gb]; omega
      simp [k1, k2, h2]
  · simp [h1]

/-! ### Turns that replace nothing -/
def adv (k : Keys) (j : Int) : Keys := Arr.make fun v => ⟨bas k v, stp k v + j⟩
theorem adv_get (k : Keys) (j : Int) (v : Nat) (hv : v < 21) : Arr.get (adv k j) (v : Int) = ⟨bas k v, stp k v + j⟩ := by
  rw [adv, get_make _ _ (by omega) (by omega)]; simp
theorem inB_0 (v : Int) : inB 0 v = false := by simp [inB]
theorem cntTo_0 : ∀ n, cntTo 0 n = 0
  | 0 => rfl
  | n + 1 => by simp [cntTo, inB_0, cntTo_0 n]
theorem turned_adv (k : Keys) (j : Nat) (f : Int) : turned (adv k j) 0 f = adv k ((j + 1 : Nat) : Int) := arr_ext fun i h0 h1 => by
  obtain ⟨v, rfl⟩ := Int.eq_ofNat_of_zero_le h0
  have hv : v < 21 := by omega
  rw [turned_get _ _ _ _ hv, adv_get _ _ _ hv]
  unfold turnedAt
  rw [inB_0, if_neg (by simp)]
  simp only [bas, stp]
  rw [adv_get _ _ _ hv]
  simp only [bas, stp, Key.mk.injEq, true_and]; omega
theorem adv_0 (k : Keys) : adv k 0 = k := arr_ext fun i h0 h1 => by
  obtain ⟨v, rfl⟩ := Int.eq_ofNat_of_zero_le h0
  rw [adv_get _ _ _ (by omega)]; simp
theorem free_0 (k : Keys) (f : Int) : free k f 0 = true := by simp [free]
theorem turn_0 {x : Keys} {f : Int} : turn x 0 f = bif goodKeys x then bif allN 21 (fun v => decide (stp x v < 255)) then (turned x 0 f, f, 0) else (zeroK, 0, 4) else (zeroK, 0, 31) := by
  unfold turn
  rw [cntTo_0, free_0]
  simp [inB_0]
abbrev seatOf (a : Arr 3 Int) (j : Nat) : Int := IntKind.i64.wrap (Int.tmod (IntKind.u64.wrap (Arr.get a (j : Int))) 21)
theorem u64_lo (n : Int) : 0 ≤ IntKind.u64.wrap n := by
  simp [IntKind.wrap, IntKind.bits, IntKind.signed]; omega
theorem tmod_wrap (n : Int) (b : Int) (hb : 0 < b) (hb2 : b ≤ 1000) : 0 ≤ IntKind.i64.wrap (Int.tmod (IntKind.u64.wrap n) b) ∧ IntKind.i64.wrap (Int.tmod (IntKind.u64.wrap n) b) < b := by
  have := u64_lo n
  rw [Int.tmod_eq_emod_of_nonneg this]
  have h1 := Int.emod_nonneg (IntKind.u64.wrap n) (show b ≠ 0 by omega)
  have h2 := Int.emod_lt_of_pos (IntKind.u64.wrap n) hb
  rw [i64_in _ (by omega)]; omega
theorem goodKeys_adv {k : Keys} (hk : goodKeys k = true) : ∀ j : Nat, (∀ i : Nat, i < j → (turn (adv k i) 0 i).2.2 = 0) → goodKeys (adv k j) = true
  | 0, _ => by rw [show adv k ((0 : Nat) : Int) = k from adv_0 k]; exact hk
  | j + 1, h => by
    obtain ⟨h1, h2, h3, h4, h5⟩ := turn_ok (h j (by omega))
    have := goodKeys_turned h1 h3 h4
    rwa [turned_adv] at this
theorem eq_law10_RatchetRuns : Eqs c_law10_RatchetRuns g_law10_RatchetRuns := Eqs.tot fun (k, a, n, _) hf => by
  change Int at n
  simp only [g_law10_RatchetRuns]
  obtain ⟨hc0, hc1⟩ := tmod_wrap n 40 (by omega) (by omega)
  generalize hcnt : IntKind.i64.wrap (Int.tmod (IntKind.u64.wrap n) 40) = c at *
  have hseat : ∀ j : Nat, 0 ≤ seatOf a j ∧ seatOf a j < 21 := fun j => tmod_wrap _ 21 (by omega) (by omega)
  rw [lfp_run' (fun i => (((), (), c, (), (), (i : Int), ()), (k, a, fillTo St.key.zero (fun j => Arr.get k (seatOf a j)) i, fillTo 0 (seatOf a) i, ()), ())) 3 (by rw [fill_0, fill_0]; rfl) fun i hi => by
    have h1 : (i : Int) < 3 := by omega
    have hp := fill_put (n := 3) (0 : Int) (seatOf a) i hi
    have hp2 := fill_put (n := 3) St.key.zero (fun j => Arr.get k (seatOf a j)) i hi
    have hg : Arr.get (fillTo (n := 3) (0 : Int) (seatOf a) (i + 1)) (i : Int) = seatOf a i := by
      rw [fillTo, get_make _ _ (by omega) (by omega), if_pos (by omega)]; simp
    have := hseat i
    simp only [g_law10_RatchetRuns_r1, h1, decide_true, cond_true, Int.natCast_nonneg, Bool.and_self]
    simp only [seatOf] at hp hp2 hg this ⊢
    rw [hp]
    simp only [hg, this.1, this.2, decide_true, Bool.and_self, cond_true, hp2, wrap1 i (by omega)]]
  rw [lfp_inr (z := (((), c, (), (), ()), (k, (Arr.make fun j => Arr.get k (seatOf a j) : Path), (Arr.make (seatOf a) : Arr 3 Int), ()), ())) (by simp [g_law10_RatchetRuns_r1, fill_n])]
  simp only [Option.bind_some]
  generalize hP : (Arr.make fun j => Arr.get k (seatOf a j) : Path) = p
  generalize hV : (Arr.make (seatOf a) : Arr 3 Int) = v
  have hpg : ∀ j : Nat, j < 3 → Arr.get p (j : Int) = Arr.get k (seatOf a j) := fun j hj => by rw [← hP, get_make _ _ (by omega) (by omega)]; simp
  have hvg : ∀ j : Nat, j < 3 → Arr.get v (j : Int) = seatOf a j := fun j hj => by rw [← hV, get_make _ _ (by omega) (by omega)]; simp
  have hnn : ((c.toNat : Nat) : Int) = c := by omega
  -- a turn that fails
  have hfail : ∀ j : Nat, (∀ i : Nat, i < j → (turn (adv k i) 0 i).2.2 = 0) → ¬ (turn (adv k j) 0 j).2.2 = 0 → (turn (adv k j) 0 j).2.2 = chk k ∨ (turn (adv k j) 0 j).2.2 = 4 := fun j hj hb => by
    rw [turn_0] at hb ⊢
    cases hg : goodKeys (adv k j) with
    | false =>
      left
      have : j = 0 := by
        cases j with
        | zero => rfl
        | succ i =>
          have h0 := (turn_ok (hj 0 (by omega))).1
          rw [show adv k ((0 : Nat) : Int) = k from adv_0 k] at h0
          rw [goodKeys_adv h0 (i + 1) hj] at hg; cases hg
      subst this
      rw [show adv k ((0 : Nat) : Int) = k from adv_0 k] at hg
      simp [chk, hg]
    | true =>
      right
      rw [hg] at hb
      cases hall : allN 21 (fun w => decide (stp (adv k j) w < 255)) with
      | false => simp
      | true => rw [hall] at hb; simp at hb
  -- the turns
  have loop : lfp g_law10_RatchetRuns_r2 (((), c, (), (), (), 0, ()), (k, p, v, k, ()), ()) =
      some (match fstN c.toNat (fun j => !decide ((turn (adv k j) 0 j).2.2 = 0)) 0 with | some _ => .inl ((true, ()), (), ()) | none => .inr (((), c, (), (), (), ()), (k, p, v, adv k c, ()), ())) := by
    have main : ∀ d i : Nat, i + d = c.toNat → (∀ j : Nat, j < i → (turn (adv k j) 0 j).2.2 = 0) → lfp g_law10_RatchetRuns_r2 (((), c, (), (), (), (i : Int), ()), (k, p, v, adv k i, ()), ()) =
        some (match fstN d (fun j => !decide ((turn (adv k j) 0 j).2.2 = 0)) i with | some _ => .inl ((true, ()), (), ()) | none => .inr (((), c, (), (), (), ()), (k, p, v, adv k c, ()), ())) := by
      intro d
      induction d with
      | zero =>
        intro i hi hj
        have : (i : Int) = c := by omega
        rw [this]
        exact lfp_inr (by simp [g_law10_RatchetRuns_r2, fstN])
      | succ d ih =>
        intro i hi hj
        have h1 : (i : Int) < c := by omega
        simp only [fstN]
        by_cases hb : (turn (adv k i) 0 i).2.2 = 0
        · obtain ⟨q1, q2, q3, q4, q5⟩ := turn_ok hb
          rw [lfp_inl (x' := (((), c, (), (), (), ((i + 1 : Nat) : Int), ()), (k, p, v, adv k ((i + 1 : Nat) : Int), ()), ())) (by
            simp only [g_law10_RatchetRuns_r2, h1, decide_true, cond_true, hb, Bool.not_true, cond_false]
            rw [q5]
            simp [cntTo_0, turned_adv, wrap1 i (by omega)])]
          rw [ih (i + 1) (by omega) (fun j hj2 => by
            by_cases he : j = i
            · subst he; exact hb
            · exact hj j (by omega))]
          simp [hb]
        · rw [lfp_inr (z := .inl ((true, ()), (), ())) (by
            simp only [g_law10_RatchetRuns_r2, h1, decide_true, cond_true, hb, decide_false, Bool.not_false]
            rcases hfail i hj hb with h | h
            · simp [h]
            · cases decide ((turn (adv k i) 0 i).2.2 = chk k) <;> simp [h])]
          simp [hb]
    have := main c.toNat 0 (by omega) (fun j hj => by omega)
    rwa [show adv k ((0 : Nat) : Int) = k from adv_0 k] at this
  rw [loop]
  simp only [Option.bind_some]
  cases hfst : fstN c.toNat (fun j => !decide ((turn (adv k j) 0 j).2.2 = 0)) 0 with
  | some i => rfl
  | none =>
    have hall : ∀ j : Nat, j < c.toNat → (turn (adv k j) 0 j).2.2 = 0 := fun j hj => by simpa using fstN_none hfst j (by omega) (by omega)
    simp only [Sum.elim_inr]
    by_cases hk : goodKeys k = true
    · have hk0 := chk_0.2 hk
      simp only [hk0, decide_true, Bool.not_true, cond_false]
      -- every key may be advanced so far
      have hst : ∀ w : Nat, w < 21 → stp k w + c ≤ 255 := fun w hw => by
        by_cases hc : c = 0
        · have := good_iff.1 (goodKeys_iff.1 hk w hw).1
          simp only [stp]; omega
        · obtain ⟨_, _, _, q4, _⟩ := turn_ok (hall (c.toNat - 1) (by omega))
          have := (q4 w hw).resolve_left (by rw [inB_0]; simp)
          simp only [stp] at this
          rw [adv_get _ _ _ hw] at this
          simp only [stp] at this ⊢; omega
      have hah : ∀ j : Nat, j < 3 → ahead (Arr.get p (j : Int)) c = (⟨bas k (seatOf a j), stp k (seatOf a j) + c⟩, 0) := fun j hj => by
        obtain ⟨s1, s2⟩ := hseat j
        obtain ⟨w, hw⟩ := Int.eq_ofNat_of_zero_le s1
        have hwl : w < 21 := by omega
        have g := (goodKeys_iff.1 hk w hwl).1
        have := hst w hwl
        rw [hpg j hj, hw]
        unfold ahead
        rw [if_pos g, if_pos ⟨hc0, this⟩]
      have h0 := hah 0 (by omega)
      have h1 := hah 1 (by omega)
      have h2 := hah 2 (by omega)
      have hfo : follow p c = (Arr.make fun j => ⟨bas k (seatOf a j), stp k (seatOf a j) + c⟩, 0) := by
        unfold follow
        rw [show ((0 : Nat) : Int) = 0 from rfl] at h0
        rw [show ((1 : Nat) : Int) = 1 from rfl] at h1
        rw [show ((2 : Nat) : Int) = 2 from rfl] at h2
        rw [h0, h1, h2, if_neg (by simp), if_neg (by simp)]
        congr 1
        apply arr_ext
        intro i hi0 hi1
        rw [get_make _ _ hi0 hi1, get_put _ _ _ _ (by omega) (by omega) hi0, get_put _ _ _ _ (by omega) (by omega) hi0, get_put _ _ _ _ (by omega) (by omega) hi0]
        have : i = 0 ∨ i = 1 ∨ i = 2 := by omega
        rcases this with rfl | rfl | rfl <;> rfl
      rw [hfo]
      simp only [decide_true, Bool.not_true, cond_false]
      rw [lfp_run' (fun i => ((c, (), (), (), (), (i : Int), ()), (p, v, adv k c, (Arr.make fun j => ⟨bas k (seatOf a j), stp k (seatOf a j) + c⟩ : Path), ()), ())) 3 (by rfl) fun i hi => by
        have h1 : (i : Int) < 3 := by omega
        obtain ⟨s1, s2⟩ := hseat i
        have hx : Arr.get (adv k c) (seatOf a i) = ⟨bas k (seatOf a i), stp k (seatOf a i) + c⟩ := by
          obtain ⟨w, hw⟩ := Int.eq_ofNat_of_zero_le s1
          rw [hw]; exact adv_get _ _ _ (by omega)
        have hq : Arr.get (Arr.make fun j => ⟨bas k (seatOf a j), stp k (seatOf a j) + c⟩ : Path) (i : Int) = ⟨bas k (seatOf a i), stp k (seatOf a i) + c⟩ := by
          rw [get_make _ _ (by omega) (by omega)]; simp
        have hfk := fine_keys hf.1 (seatOf a i) s1 s2
        have hw : IntKind.i64.wrap (stp k (seatOf a i) + c - c) = stp k (seatOf a i) := by
          rw [show stp k (seatOf a i) + c - c = stp k (seatOf a i) by omega]; exact i64_in _ hfk.2
        simp only [g_law10_RatchetRuns_r3, h1, decide_true, cond_true, Int.natCast_nonneg, Bool.and_self, hvg i hi, s1, s2, hx, hq, hpg i hi, hw, Bool.not_true, cond_false, wrap1 i (by omega)]]
      rw [lfp_inr (z := .inr ((), (), ())) (by simp [g_law10_RatchetRuns_r3])]
      simp
    · have hc : c.toNat = 0 := by
        by_cases h : c.toNat = 0
        · exact h
        · have := (turn_ok (hall 0 (by omega))).1
          rw [show adv k ((0 : Nat) : Int) = k from adv_0 k] at this
          exact absurd this hk
      have : chk k = 31 := by unfold chk; rw [Bool.eq_false_iff.2 hk]; rfl
      have hc : c = 0 := by omega
      simp [this, hc]
end Go.Co.N
end
