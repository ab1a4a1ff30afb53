/-
  The kinds of Go data that the program coterie handles, as Lean types; reading and writing a part of such a datum.
  Own text, for the claims about coterie. Nothing of Go's model is restated here.
-/
import GoSem.Core.Value
namespace Go.Co

/-! ### Arrays -/
/-- An array of n elements. -/
abbrev Arr (n : Nat) (α : Type) := Vector α n

namespace Arr
variable {n : Nat} {α : Type} [Inhabited α]
/-- The element at an index; outside: the zero value. -/
def get (a : Arr n α) (i : Int) : α := a.toArray.getD i.toNat default
def put (a : Arr n α) (i : Int) (x : α) : Arr n α := Vector.setIfInBounds a i.toNat x
def make (f : Nat → α) : Arr n α := Vector.ofFn fun i => f i.val
end Arr

/-- The element at an index of a list; outside: the zero value. -/
def lat {α : Type} [Inhabited α] (l : List α) (i : Int) : α := l.getD i.toNat default

/-! ### The program's own structs -/
structure Key where
  Base : Int
  Step : Int
  deriving DecidableEq, Inhabited
structure Box where
  Under : Key
  Load : Key
  deriving DecidableEq, Inhabited
structure Entry where
  Who : Int
  Base : Int
  Since : Int
  deriving DecidableEq, Inhabited
abbrev Keys := Arr 21 Key
abbrev Roster := Arr 64 Entry
abbrev Path := Arr 3 Key
structure Tree where
  Epoch : Int
  Fresh : Int
  Keys : Keys
  Roster : Roster
  deriving DecidableEq, Inhabited
structure Batch where
  Leaves : List Int
  Joins : List Int
  deriving DecidableEq, Inhabited
structure Seat where
  Who : Int
  Slot : Int
  deriving DecidableEq, Inhabited
structure Item where
  Node : Int
  From : Int
  Box : Box
  deriving DecidableEq, Inhabited
structure Rekey where
  Epoch : Int
  Leaves : List Seat
  Joins : List Seat
  Items : List Item
  deriving DecidableEq, Inhabited
structure Request where
  Who : Int
  Epoch : Int
  deriving DecidableEq, Inhabited
structure Reply where
  Who : Int
  Slot : Int
  Epoch : Int
  Path : Arr 3 Box
  deriving DecidableEq, Inhabited
structure Sealed where
  Epoch : Int
  Under : Key
  Text : ByteArray
  deriving DecidableEq, Inhabited
structure Message where
  Kind : Int
  Rekey : Rekey
  Request : Request
  Reply : Reply
  Sealed : Sealed
  deriving DecidableEq, Inhabited
structure Card where
  Who : Int
  Slot : Int
  Epoch : Int
  Leaf : Key
  deriving DecidableEq, Inhabited
structure Member where
  Who : Int
  Slot : Int
  Epoch : Int
  Leaf : Key
  Path : Path
  Has : Bool
  Out : Bool
  Behind : Int
  deriving DecidableEq, Inhabited
structure Record where
  Epoch : Int
  Fresh : Int
  Leaves : List Int
  Joins : List Seat
  deriving DecidableEq, Inhabited
structure Reveal where
  Who : Int
  Epoch : Int
  deriving DecidableEq, Inhabited
structure Lag where
  Tree : Tree
  Script : List Batch
  Who : Int
  Bare : Bool
  Behind : Int
  deriving DecidableEq, Inhabited

/-- The structs' names. -/
inductive St where
  | key | box | entry | tree | batch | seat | item | rekey | request | reply | sealed | message | card | member | record | reveal | lag
  deriving DecidableEq

/-- The kinds of data. 'list': a slice; 'prod', 'unit': a struct's fields, one behind the other. -/
inductive Ty where
  | int (k : IntKind)
  | bool
  | str
  | unit
  | prod (a b : Ty)
  | arr (n : Nat) (t : Ty)
  | list (t : Ty)
  | st (s : St)

def IntKind.eqb : IntKind → IntKind → Bool
  | .i8, .i8 | .i16, .i16 | .i32, .i32 | .i64, .i64 | .u8, .u8 | .u16, .u16 | .u32, .u32 | .u64, .u64 => true
  | _, _ => false
theorem IntKind.eq_of_eqb : ∀ {a b : IntKind}, IntKind.eqb a b = true → a = b := by
  intro a b; cases a <;> cases b <;> simp [IntKind.eqb]
def St.no : St → Nat
  | .key => 0 | .box => 1 | .entry => 2 | .tree => 3 | .batch => 4 | .seat => 5 | .item => 6 | .rekey => 7 | .request => 8 | .reply => 9 | .sealed => 10 | .message => 11
  | .card => 12 | .member => 13 | .record => 14 | .reveal => 15 | .lag => 16
theorem St.no_inj : ∀ {a b : St}, a.no = b.no → a = b := by
  intro a b; cases a <;> cases b <;> simp [St.no]
def Ty.eqb : Ty → Ty → Bool
  | .int k, .int l => IntKind.eqb k l
  | .bool, .bool => true
  | .str, .str => true
  | .unit, .unit => true
  | .prod a b, .prod c d => match Ty.eqb a c with | true => Ty.eqb b d | false => false
  | .arr n t, .arr m u => match Nat.beq n m with | true => Ty.eqb t u | false => false
  | .list t, .list u => Ty.eqb t u
  | .st a, .st b => Nat.beq a.no b.no
  | _, _ => false
theorem Ty.eqb_prod (a b c d : Ty) : Ty.eqb (.prod a b) (.prod c d) = (Ty.eqb a c && Ty.eqb b d) := by rw [Ty.eqb]; cases Ty.eqb a c <;> rfl
theorem Ty.eqb_arr (n m : Nat) (t u : Ty) : Ty.eqb (.arr n t) (.arr m u) = (Nat.beq n m && Ty.eqb t u) := by rw [Ty.eqb]; cases Nat.beq n m <;> rfl
theorem Ty.eq_of_eqb : ∀ {a b : Ty}, Ty.eqb a b = true → a = b := by
  intro a
  induction a with
  | int k => intro b h; cases b <;> simp [Ty.eqb] at h; rw [IntKind.eq_of_eqb h]
  | bool => intro b h; cases b <;> simp [Ty.eqb] at h; rfl
  | str => intro b h; cases b <;> simp [Ty.eqb] at h; rfl
  | unit => intro b h; cases b <;> simp [Ty.eqb] at h; rfl
  | prod x y ihx ihy => intro b h; cases b <;> try (simp [Ty.eqb] at h; done)
                        rw [Ty.eqb_prod] at h; simp at h; rw [ihx h.1, ihy h.2]
  | arr n t ih => intro b h; cases b <;> try (simp [Ty.eqb] at h; done)
                  rw [Ty.eqb_arr] at h; simp at h; rw [h.1, ih h.2]
  | list t ih => intro b h; cases b <;> simp [Ty.eqb] at h; rw [ih h]
  | st s => intro b h; cases b <;> simp [Ty.eqb] at h; rw [St.no_inj h]
theorem IntKind.eqb_self (a : IntKind) : IntKind.eqb a a = true := by cases a <;> rfl
theorem Ty.eqb_self (a : Ty) : Ty.eqb a a = true := by
  induction a with
  | prod a b iha ihb => rw [Ty.eqb_prod, iha, ihb]; rfl
  | arr n t ih => rw [Ty.eqb_arr, ih]; simp
  | _ => simp [Ty.eqb, IntKind.eqb_self, *]

abbrev St.den : St → Type
  | .key => Key | .box => Box | .entry => Entry | .tree => Tree | .batch => Batch | .seat => Seat | .item => Item | .rekey => Rekey | .request => Request | .reply => Reply
  | .sealed => Sealed | .message => Message | .card => Card | .member => Member | .record => Record | .reveal => Reveal | .lag => Lag
abbrev Ty.den : Ty → Type
  | .int _ => Int
  | .bool => Bool
  | .str => ByteArray
  | .unit => Unit
  | .prod a b => a.den × b.den
  | .arr n t => Arr n t.den
  | .list t => List t.den
  | .st s => s.den

abbrev Ty.i : Ty := .int .i64
/-- A struct's fields. -/
def St.body : St → Ty
  | .key => .prod .i (.prod .i .unit)
  | .box => .prod (.st .key) (.prod (.st .key) .unit)
  | .entry => .prod .i (.prod .i (.prod .i .unit))
  | .tree => .prod .i (.prod .i (.prod (.arr 21 (.st .key)) (.prod (.arr 64 (.st .entry)) .unit)))
  | .batch => .prod (.list .i) (.prod (.list .i) .unit)
  | .seat => .prod .i (.prod .i .unit)
  | .item => .prod .i (.prod .i (.prod (.st .box) .unit))
  | .rekey => .prod .i (.prod (.list (.st .seat)) (.prod (.list (.st .seat)) (.prod (.list (.st .item)) .unit)))
  | .request => .prod .i (.prod .i .unit)
  | .reply => .prod .i (.prod .i (.prod .i (.prod (.arr 3 (.st .box)) .unit)))
  | .sealed => .prod .i (.prod (.st .key) (.prod .str .unit))
  | .message => .prod .i (.prod (.st .rekey) (.prod (.st .request) (.prod (.st .reply) (.prod (.st .sealed) .unit))))
  | .card => .prod .i (.prod .i (.prod .i (.prod (.st .key) .unit)))
  | .member => .prod .i (.prod .i (.prod .i (.prod (.st .key) (.prod (.arr 3 (.st .key)) (.prod .bool (.prod .bool (.prod .i .unit)))))))
  | .record => .prod .i (.prod .i (.prod (.list .i) (.prod (.list (.st .seat)) .unit)))
  | .reveal => .prod .i (.prod .i .unit)
  | .lag => .prod (.st .tree) (.prod (.list (.st .batch)) (.prod .i (.prod .bool (.prod .i .unit))))
def St.unpack : (s : St) → s.den → s.body.den
  | .key, x => (x.Base, x.Step, ())
  | .box, x => (x.Under, x.Load, ())
  | .entry, x => (x.Who, x.Base, x.Since, ())
  | .tree, x => (x.Epoch, x.Fresh, x.Keys, x.Roster, ())
  | .batch, x => (x.Leaves, x.Joins, ())
  | .seat, x => (x.Who, x.Slot, ())
  | .item, x => (x.Node, x.From, x.Box, ())
  | .rekey, x => (x.Epoch, x.Leaves, x.Joins, x.Items, ())
  | .request, x => (x.Who, x.Epoch, ())
  | .reply, x => (x.Who, x.Slot, x.Epoch, x.Path, ())
  | .sealed, x => (x.Epoch, x.Under, x.Text, ())
  | .message, x => (x.Kind, x.Rekey, x.Request, x.Reply, x.Sealed, ())
  | .card, x => (x.Who, x.Slot, x.Epoch, x.Leaf, ())
  | .member, x => (x.Who, x.Slot, x.Epoch, x.Leaf, x.Path, x.Has, x.Out, x.Behind, ())
  | .record, x => (x.Epoch, x.Fresh, x.Leaves, x.Joins, ())
  | .reveal, x => (x.Who, x.Epoch, ())
  | .lag, x => (x.Tree, x.Script, x.Who, x.Bare, x.Behind, ())
def St.pack : (s : St) → s.body.den → s.den
  | .key, x => ⟨x.1, x.2.1⟩
  | .box, x => ⟨x.1, x.2.1⟩
  | .entry, x => ⟨x.1, x.2.1, x.2.2.1⟩
  | .tree, x => ⟨x.1, x.2.1, x.2.2.1, x.2.2.2.1⟩
  | .batch, x => ⟨x.1, x.2.1⟩
  | .seat, x => ⟨x.1, x.2.1⟩
  | .item, x => ⟨x.1, x.2.1, x.2.2.1⟩
  | .rekey, x => ⟨x.1, x.2.1, x.2.2.1, x.2.2.2.1⟩
  | .request, x => ⟨x.1, x.2.1⟩
  | .reply, x => ⟨x.1, x.2.1, x.2.2.1, x.2.2.2.1⟩
  | .sealed, x => ⟨x.1, x.2.1, x.2.2.1⟩
  | .message, x => ⟨x.1, x.2.1, x.2.2.1, x.2.2.2.1, x.2.2.2.2.1⟩
  | .card, x => ⟨x.1, x.2.1, x.2.2.1, x.2.2.2.1⟩
  | .member, x => ⟨x.1, x.2.1, x.2.2.1, x.2.2.2.1, x.2.2.2.2.1, x.2.2.2.2.2.1, x.2.2.2.2.2.2.1, x.2.2.2.2.2.2.2.1⟩
  | .record, x => ⟨x.1, x.2.1, x.2.2.1, x.2.2.2.1⟩
  | .reveal, x => ⟨x.1, x.2.1⟩
  | .lag, x => ⟨x.1, x.2.1, x.2.2.1, x.2.2.2.1, x.2.2.2.2.1⟩
theorem St.pack_unpack (s : St) (x : s.den) : s.pack (s.unpack x) = x := by cases s <;> rfl
theorem St.unpack_pack (s : St) (x : s.body.den) : s.unpack (s.pack x) = x := by cases s <;> rfl

def St.zero : (s : St) → s.den
  | .key => default | .box => default | .entry => default | .tree => default | .batch => default | .seat => default | .item => default | .rekey => default
  | .request => default | .reply => default | .sealed => default | .message => default | .card => default | .member => default | .record => default | .reveal => default | .lag => default
def Ty.zero : (t : Ty) → t.den
  | .int _ => (0 : Int)
  | .bool => false
  | .str => ByteArray.empty
  | .unit => ()
  | .prod a b => (a.zero, b.zero)
  | .arr n t => Vector.replicate n t.zero
  | .list _ => []
  | .st s => s.zero
instance Ty.inhabited (t : Ty) : Inhabited t.den := ⟨t.zero⟩

def St.decEq : (s : St) → DecidableEq s.den
  | .key => inferInstanceAs (DecidableEq Key) | .box => inferInstanceAs (DecidableEq Box) | .entry => inferInstanceAs (DecidableEq Entry) | .tree => inferInstanceAs (DecidableEq Tree)
  | .batch => inferInstanceAs (DecidableEq Batch) | .seat => inferInstanceAs (DecidableEq Seat) | .item => inferInstanceAs (DecidableEq Item) | .rekey => inferInstanceAs (DecidableEq Rekey)
  | .request => inferInstanceAs (DecidableEq Request) | .reply => inferInstanceAs (DecidableEq Reply) | .sealed => inferInstanceAs (DecidableEq Sealed) | .message => inferInstanceAs (DecidableEq Message)
  | .card => inferInstanceAs (DecidableEq Card) | .member => inferInstanceAs (DecidableEq Member) | .record => inferInstanceAs (DecidableEq Record) | .reveal => inferInstanceAs (DecidableEq Reveal)
  | .lag => inferInstanceAs (DecidableEq Lag)
def Ty.decEq : (t : Ty) → DecidableEq t.den
  | .int _ => inferInstanceAs (DecidableEq Int)
  | .bool => inferInstanceAs (DecidableEq Bool)
  | .str => inferInstanceAs (DecidableEq ByteArray)
  | .unit => inferInstanceAs (DecidableEq Unit)
  | .prod a b => @instDecidableEqProd _ _ a.decEq b.decEq
  | .arr n t => @instDecidableEqVector t.den n t.decEq
  | .list t => @instDecidableEqList t.den t.decEq
  | .st s => s.decEq

/-- How many cells a datum takes. -/
def St.size : St → Nat
  | .key => 2 | .box => 4 | .entry => 3 | .tree => 236 | .batch => 2 | .seat => 2 | .item => 6 | .rekey => 4 | .request => 2 | .reply => 15 | .sealed => 4 | .message => 26 | .card => 5
  | .member => 14 | .record => 4 | .reveal => 2 | .lag => 240
def Ty.size : Ty → Nat
  | .int _ => 1
  | .bool => 1
  | .str => 1
  | .unit => 0
  | .prod a b => a.size + b.size
  | .arr n t => n * t.size
  | .list _ => 1
  | .st s => s.size
theorem St.size_body (s : St) : s.body.size = s.size := by cases s <;> rfl
/-- How many bytes. -/
def St.bytes : St → Nat
  | .key => 16 | .box => 32 | .entry => 24 | .tree => 1888 | .batch => 48 | .seat => 16 | .item => 48 | .rekey => 80 | .request => 16 | .reply => 120 | .sealed => 40 | .message => 264 | .card => 40
  | .member => 104 | .record => 64 | .reveal => 16 | .lag => 1936
def IntKind.bytes : IntKind → Nat
  | .i8 => 1 | .u8 => 1 | .i16 => 2 | .u16 => 2 | .i32 => 4 | .u32 => 4 | .i64 => 8 | .u64 => 8
def Ty.bytes : Ty → Nat
  | .int k => IntKind.bytes k
  | .bool => 1
  | .str => 16
  | .unit => 0
  | .prod a b => a.bytes + b.bytes
  | .arr n t => n * t.bytes
  | .list _ => 24
  | .st s => s.bytes
/-- Is it told by one value of several cells? -/
def Ty.agg : Ty → Bool
  | .unit | .prod .. | .arr .. | .st _ => true
  | _ => false
/-- Has it a slice in it? -/
def Ty.lists : Ty → Bool
  | .list _ => true
  | .prod a b => a.lists || b.lists
  | .arr _ t => t.lists
  | .st s => match s with | .batch | .rekey | .message | .record | .lag => true | _ => false
  | _ => false

/-! ### Weights of kinds -/
def St.wt : St → Nat
  | .key => 10 | .box => 30 | .entry => 10 | .tree => 40 | .batch => 10 | .seat => 10 | .item => 50 | .rekey => 100 | .request => 10 | .reply => 50 | .sealed => 20 | .message => 200 | .card => 30
  | .member => 50 | .record => 30 | .reveal => 10 | .lag => 100
def Ty.wt : Ty → Nat
  | .int _ | .bool | .str | .unit => 1
  | .prod a b => a.wt + b.wt + 1
  | .arr _ t => t.wt + 1
  | .list t => t.wt + 1
  | .st s => s.wt

/-! ### A part of a datum -/
/-- A step to a part: a field, an element. -/
inductive PS where
  | fld (i : Nat)
  | idx (i : Int)

structure Dyn where
  t : Ty
  x : t.den

def cast? (t u : Ty) (x : t.den) : Option u.den :=
  match h : Ty.eqb t u with
  | true => some (Ty.eq_of_eqb h ▸ x)
  | false => none

def nthTy : Ty → Nat → Option Ty
  | .prod a _, 0 => some a
  | .prod _ b, i + 1 => nthTy b i
  | _, _ => none
def nthOff : Ty → Nat → Nat
  | .prod a b, i + 1 => a.size + nthOff b i
  | _, _ => 0
def getNth : (t : Ty) → t.den → Nat → Option Dyn
  | .prod a _, x, 0 => some ⟨a, x.1⟩
  | .prod _ b, x, i + 1 => getNth b x.2 i
  | _, _, _ => none
def modNth : (t : Ty) → t.den → Nat → ((u : Ty) → u.den → Option u.den) → Option t.den
  | .prod a _, x, 0, f => match f a x.1 with | some y => some (y, x.2) | none => none
  | .prod _ b, x, i + 1, f => match modNth b x.2 i f with | some y => some (x.1, y) | none => none
  | _, _, _, _ => none
def getFld (t : Ty) (x : t.den) (i : Nat) : Option Dyn :=
  match t, x with
  | .st s, x => getNth s.body (s.unpack x) i
  | _, _ => none
def modFld (t : Ty) (x : t.den) (i : Nat) (f : (u : Ty) → u.den → Option u.den) : Option t.den :=
  match t, x with
  | .st s, x => match modNth s.body (s.unpack x) i f with | some y => some (s.pack y) | none => none
  | _, _ => none
/-- The kind of a part, and the cell at which it begins. -/
def tyAt : Ty → List PS → Option (Ty × Nat)
  | t, [] => some (t, 0)
  | .st s, .fld i :: p =>
    match nthTy s.body i with
    | some u => match tyAt u p with | some (v, o) => some (v, nthOff s.body i + o) | none => none
    | none => none
  | .arr _ t, .idx i :: p => match tyAt t p with | some (v, o) => some (v, i.toNat * t.size + o) | none => none
  | _, _ :: _ => none
/-- Do all indexes lie in their arrays? -/
def inRange : Ty → List PS → Prop
  | _, [] => True
  | .st s, .fld i :: p => match nthTy s.body i with | some u => inRange u p | none => False
  | .arr n t, .idx i :: p => 0 ≤ i ∧ i < n ∧ inRange t p
  | _, _ :: _ => False
def getAt : (t : Ty) → t.den → List PS → Option Dyn
  | t, x, [] => some ⟨t, x⟩
  | t, x, .fld i :: p => match getFld t x i with | some d => getAt d.t d.x p | none => none
  | .arr _ t, x, .idx i :: p => getAt t (Arr.get x i) p
  | _, _, .idx _ :: _ => none
def setAt : (t : Ty) → t.den → List PS → Dyn → Option t.den
  | t, _, [], d => cast? d.t t d.x
  | t, x, .fld i :: p, d => modFld t x i fun u y => setAt u y p d
  | .arr _ t, x, .idx i :: p, d => match setAt t (Arr.get x i) p d with | some y => some (Arr.put x i y) | none => none
  | _, _, .idx _ :: _, _ => none

end Go.Co
