/-
  What the functions of members, of messages' parts and of sealed texts are to answer.
  Own text, for the claims about coterie. No program in sight.
-/
import Derived.Test.YtghmcodjbkmlnaaN12S
namespace Go.Co.N
open Go Go.Co

/-! ### Members -/
def betw (n lo hi : Int) : Bool := decide (lo ≤ n) && decide (n ≤ hi)
theorem betw_iff {n lo hi : Int} : betw n lo hi = true ↔ lo ≤ n ∧ n ≤ hi := by simp [betw]
abbrev c_member_between : Con := ⟨[.i, .i, .i], [.bool], fun x => some (betw x.1 x.2.1 x.2.2.1, ())⟩
abbrev c_wire_between : Con := ⟨[.i, .i, .i], [.bool], fun x => some (betw x.1 x.2.1 x.2.2.1, ())⟩
abbrev c_wire_epoch : Con := ⟨[.i], [.bool], fun x => some (betw x.1 1 200, ())⟩
abbrev c_ref14_epoch : Con := ⟨[.i], [.bool], fun x => some (betw x.1 1 200, ())⟩
def goodCard (c : Card) : Bool := betw c.Who 0 255 && betw c.Slot 0 63 && betw c.Epoch 1 200 && good c.Leaf
abbrev c_member_card : Con := ⟨[.st .card], [.bool], fun x => some (goodCard x.1, ())⟩
abbrev c_ref15_GoodCard : Con := ⟨[.st .card], [.bool], fun x => some (goodCard x.1, ())⟩
def outM (who epoch : Int) : Member := ⟨who, 0, epoch, St.key.zero, zeroP, false, true, 0⟩
def goodPath (p : Path) : Bool := allN 3 fun i => good (Arr.get p (i : Int))
def calmB (m : Member) : Bool := decide (m.Behind = 0) || betw m.Behind (m.Epoch + 1) 200
def kind (m : Member) : Int :=
  bif decide (m = zeroM) then 0
  else bif m.Out then (bif decide (m = outM m.Who m.Epoch) && betw m.Who 0 255 && betw m.Epoch 1 200 then 1 else -1)
  else bif goodCard (cardOf m) && calmB m then
    (bif m.Has then (bif goodPath m.Path then 3 else -1) else (bif decide (m.Path = zeroP) then 2 else -1))
  else -1
abbrev c_member_Kind : Con := ⟨[.st .member], [.i], fun x => some (kind x.1, ())⟩
abbrev c_ref15_Kind : Con := ⟨[.st .member], [.i], fun x => some (kind x.1, ())⟩
def group (m : Member) : Key × Int :=
  bif decide (kind m = 3) then (Arr.get m.Path 2, 0) else bif decide (kind m = 1) then (⟨0, 0⟩, 20) else bif decide (kind m = 2) then (⟨0, 0⟩, 22) else (⟨0, 0⟩, 30)
abbrev c_member_Group : Con := ⟨[.st .member], [.st .key, .i], fun x => some ((group x.1).1, (group x.1).2, ())⟩
abbrev c_ref15_Group : Con := ⟨[.st .member], [.st .key, .i], fun x => some ((group x.1).1, (group x.1).2, ())⟩

/-! ### Messages' parts -/
def goodSeat (s : Seat) : Bool := betw s.Who 0 255 && betw s.Slot 0 63
abbrev c_wire_seat : Con := ⟨[.st .seat], [.bool], fun x => some (goodSeat x.1, ())⟩
def goodBox (b : Box) : Bool := good b.Under && good b.Load
abbrev c_wire_box : Con := ⟨[.st .box], [.bool], fun x => some (goodBox x.1, ())⟩
abbrev c_ref02_GoodBox : Con := ⟨[.st .box], [.bool], fun x => some (goodBox x.1, ())⟩
abbrev c_shape_Below : Con := ⟨[.i, .i], [.bool], fun x => some (below x.1 x.2.1, ())⟩
def goodItem (i : Item) : Bool := betw i.Node 0 20 && !decide (i.From = i.Node) && below i.Node i.From && goodBox i.Box
abbrev c_wire_item : Con := ⟨[.st .item], [.bool], fun x => some (goodItem x.1, ())⟩
def goodSeats (l : List Seat) : Bool := l.all goodSeat && decide (l.length ≤ 64)
def goodRekey (r : Rekey) : Bool := betw r.Epoch 1 200 && goodSeats r.Leaves && goodSeats r.Joins && decide (r.Items.length ≤ 1536) && r.Items.all goodItem
def goodRequest (q : Request) : Bool := betw q.Who 0 255 && betw q.Epoch 1 200
def goodReply (p : Reply) : Bool := betw p.Who 0 255 && betw p.Slot 0 63 && betw p.Epoch 1 200 && allN 3 fun i => goodBox (Arr.get p.Path (i : Int))
def goodSealed (s : Sealed) : Bool := betw s.Epoch 1 200 && good s.Under && decide (s.Text.size ≤ 64)
abbrev c_ref14_GoodSealed : Con := ⟨[.st .sealed], [.bool], fun x => some (goodSealed x.1, ())⟩
abbrev zeroQ : Request := ⟨0, 0⟩
abbrev zeroY : Reply := St.zero .reply
abbrev zeroS : Sealed := St.zero .sealed
def noRekey (r : Rekey) : Bool := decide (r.Epoch = 0) && decide ((r.Leaves.length : Int) + r.Joins.length + r.Items.length = 0)
abbrev c_wire_empty : Con := ⟨[.st .rekey], [.bool], fun x => some (noRekey x.1, ())⟩
def goodMsg (m : Message) : Bool :=
  bif decide (m.Kind = 1) then goodRekey m.Rekey && decide (m.Request = zeroQ) && decide (m.Reply = zeroY) && decide (m.Sealed = zeroS)
  else bif decide (m.Kind = 2) then noRekey m.Rekey && goodRequest m.Request && decide (m.Reply = zeroY) && decide (m.Sealed = zeroS)
  else bif decide (m.Kind = 3) then noRekey m.Rekey && decide (m.Request = zeroQ) && goodReply m.Reply && decide (m.Sealed = zeroS)
  else bif decide (m.Kind = 4) then noRekey m.Rekey && decide (m.Request = zeroQ) && decide (m.Reply = zeroY) && goodSealed m.Sealed
  else false
abbrev c_wire_Good : Con := ⟨[.st .message], [.bool], fun x => some (goodMsg x.1, ())⟩

/-! ### Sealed texts -/
def cmpI (a b : Int) : Int := bif decide (a < b) then -1 else bif decide (b < a) then 1 else 0
abbrev c_cmp_Compare : Con := ⟨[.i, .i], [.i], fun x => some (cmpI x.1 x.2.1, ())⟩
def sealM (m : Member) (t : ByteArray) : Sealed × Int :=
  bif decide ((group m).2 = 0) then bif decide (t.size ≤ 64) then (⟨m.Epoch, (group m).1, t⟩, 0) else (zeroS, 25) else (zeroS, (group m).2)
abbrev c_data_Seal : Con := ⟨[.st .member, .str], [.st .sealed, .i], fun x => some ((sealM x.1 x.2.1).1, (sealM x.1 x.2.1).2, ())⟩
abbrev c_ref17_Seal : Con := ⟨[.st .member, .str], [.st .sealed, .i], fun x => some ((sealM x.1 x.2.1).1, (sealM x.1 x.2.1).2, ())⟩
def openM (m : Member) (s : Sealed) : ByteArray × Int :=
  bif decide ((group m).2 = 0) then
    bif goodSealed s then
      bif decide (s.Epoch < m.Epoch) then (ByteArray.empty, 21) else bif decide (m.Epoch < s.Epoch) then (ByteArray.empty, 32)
      else bif decide (s.Under = (group m).1) then (s.Text, 0) else (ByteArray.empty, 5)
    else (ByteArray.empty, 13)
  else (ByteArray.empty, (group m).2)
abbrev c_data_Open : Con := ⟨[.st .member, .st .sealed], [.str, .i], fun x => some ((openM x.1 x.2.1).1, (openM x.1 x.2.1).2, ())⟩
abbrev c_ref17_Open : Con := ⟨[.st .member, .st .sealed], [.str, .i], fun x => some ((openM x.1 x.2.1).1, (openM x.1 x.2.1).2, ())⟩

/-! ### The laws of chapter 17 -/
abbrev c_law17_lives : Con := c_True []
abbrev c_law17_DataSeals : Con := c_True [.st .member, .str]
abbrev c_law17_DataOpens : Con := c_True [.st .member, .st .sealed]
abbrev c_law17_DataInStep : Con := c_True [.st .tree, .i, .str]
abbrev c_law17_DataApart : Con := c_True [.st .tree, .list (.st .batch), .i]
end Go.Co.N
