/-
  The kinds of Go data that the program coterie handles, as Lean types; reading and writing a part of such a datum.
  A run of Go code over named variables: what a piece of code does to its slots and to the variables, slices and maps that it made, told as one Lean term.
  What it means that memory and a frame fit an abstract state: plain data as cells, slots, variables, rows, maps.
  Types' numbers and kinds; parts of data and of values as runs of cells.
  Memory: how what fits goes on fitting: new blocks, stores, rows let go, calls that leave old memory alone; plain data out of rows.
  The operations that only read: what the model's run of them gives.
  Addresses, whole numbers, comparisons, conversions, slices: what the model's run of them gives.
  Comparisons, arithmetic, conversions, slices, maps' entries, lengths, literals: what the model's run of them gives.
  No conditions. Own text, for the claims about coterie.
-/
import GoSem.Core.Value
import GoSem.Core.Region
import Derived.Calls
import Derived.Below
import Derived.Laws.CopyRow
import Derived.Laws.StructEq

section
namespace Go.Co

/-! ### Arrays -/
/-- An array of n elements. -/
abbrev Arr (n : Nat) (α : Type) := Vector α n

namespace Arr
variable {n : Nat} {α : Type} [Inhabited α]
/-- The element at an index; outside: the zero value. -/
def get (a : Arr n α) (i : Int) : α := a.toArray.getD i.toNat default
def put (a : Arr n α) (i : Int) (x : α) : Arr n α := Vector.setIfInBounds a i.toNat x
def make (f : Nat → α) : Arr n α := Vector.ofFn fun i => f i.val
end Arr

/-- The element at an index of a list; outside: the zero value. -/
def lat {α : Type} [Inhabited α] (l : List α) (i : Int) : α := l.getD i.toNat default

/-! ### The program's own structs -/
structure Key where
  Base : Int
  Step : Int
  deriving DecidableEq, Inhabited
structure Box where
  Under : Key
  Load : Key
  deriving DecidableEq, Inhabited
structure Entry where
  Who : Int
  Base : Int
  Since : Int
  deriving DecidableEq, Inhabited
abbrev Keys := Arr 21 Key
abbrev Roster := Arr 64 Entry
abbrev Path := Arr 3 Key
structure Tree where
  Epoch : Int
  Fresh : Int
  Keys : Keys
  Roster : Roster
  deriving DecidableEq, Inhabited
structure Batch where
  Leaves : List Int
  Joins : List Int
  deriving DecidableEq, Inhabited
structure Seat where
  Who : Int
  Slot : Int
  deriving DecidableEq, Inhabited
structure Item where
  Node : Int
  From : Int
  Box : Box
  deriving DecidableEq, Inhabited
structure Rekey where
  Epoch : Int
  Leaves : List Seat
  Joins : List Seat
  Items : List Item
  deriving DecidableEq, Inhabited
structure Request where
  Who : Int
  Epoch : Int
  deriving DecidableEq, Inhabited
structure Reply where
  Who : Int
  Slot : Int
  Epoch : Int
  Path : Arr 3 Box
  deriving DecidableEq, Inhabited
structure Sealed where
  Epoch : Int
  Under : Key
  Text : ByteArray
  deriving DecidableEq, Inhabited
structure Message where
  Kind : Int
  Rekey : Rekey
  Request : Request
  Reply : Reply
  Sealed : Sealed
  deriving DecidableEq, Inhabited
structure Card where
  Who : Int
  Slot : Int
  Epoch : Int
  Leaf : Key
  deriving DecidableEq, Inhabited
structure Member where
  Who : Int
  Slot : Int
  Epoch : Int
  Leaf : Key
  Path : Path
  Has : Bool
  Out : Bool
  Behind : Int
  deriving DecidableEq, Inhabited
structure Record where
  Epoch : Int
  Fresh : Int
  Leaves : List Int
  Joins : List Seat
  deriving DecidableEq, Inhabited
structure Reveal where
  Who : Int
  Epoch : Int
  deriving DecidableEq, Inhabited
structure Lag where
  Tree : Tree
  Script : List Batch
  Who : Int
  Bare : Bool
  Behind : Int
  deriving DecidableEq, Inhabited

/-- A field of bits; what counts bits; what writes and reads them. -/
structure Fld where
  Value : Int
  Width : Int
  deriving DecidableEq, Inhabited
structure Ctr where
  n : Int
  deriving DecidableEq, Inhabited
structure Wtr where
  counter : Ctr
  out : List Int
  deriving DecidableEq, Inhabited
structure Rdr where
  counter : Ctr
  text : ByteArray
  deriving DecidableEq, Inhabited
structure RRd where
  Bits : List Int
  At : Int
  deriving DecidableEq, Inhabited
structure Turned where
  Script : List Batch
  At : List Int
  Tree : Tree
  deriving DecidableEq, Inhabited
structure Ask where
  Row : Turned
  Seen : List Reveal
  Who : Int
  From : Int
  To : Int
  Node : Int
  deriving DecidableEq, Inhabited

/-- The structs' names. -/
inductive St where
  | key | box | entry | tree | batch | seat | item | rekey | request | reply | sealed | message | card | member | record | reveal | lag | field | counter | writer | breader | rreader | turned | ask
  deriving DecidableEq

/-- The kinds of data. 'list': a slice; 'prod', 'unit': a struct's fields, one behind the other. -/
inductive Ty where
  | int (k : IntKind)
  | bool
  | str
  | unit
  | prod (a b : Ty)
  | arr (n : Nat) (t : Ty)
  | list (t : Ty)
  | st (s : St)

def IntKind.eqb : IntKind → IntKind → Bool
  | .i8, .i8 | .i16, .i16 | .i32, .i32 | .i64, .i64 | .u8, .u8 | .u16, .u16 | .u32, .u32 | .u64, .u64 => true
  | _, _ => false
theorem IntKind.eq_of_eqb : ∀ {a b : IntKind}, IntKind.eqb a b = true → a = b := by
  intro a b; cases a <;> cases b <;> simp [IntKind.eqb]
def St.no : St → Nat
  | .key => 0 | .box => 1 | .entry => 2 | .tree => 3 | .batch => 4 | .seat => 5 | .item => 6 | .rekey => 7 | .request => 8 | .reply => 9 | .sealed => 10 | .message => 11
  | .card => 12 | .member => 13 | .record => 14 | .reveal => 15 | .lag => 16 | .field => 17 | .counter => 18 | .writer => 19 | .breader => 20 | .rreader => 21 | .turned => 22 | .ask => 23
theorem St.no_inj : ∀ {a b : St}, a.no = b.no → a = b := by
  intro a b; cases a <;> cases b <;> simp [St.no]
def Ty.eqb : Ty → Ty → Bool
  | .int k, .int l => IntKind.eqb k l
  | .bool, .bool => true
  | .str, .str => true
  | .unit, .unit => true
  | .prod a b, .prod c d => match Ty.eqb a c with | true => Ty.eqb b d | false => false
  | .arr n t, .arr m u => match Nat.beq n m with | true => Ty.eqb t u | false => false
  | .list t, .list u => Ty.eqb t u
  | .st a, .st b => Nat.beq a.no b.no
  | _, _ => false
theorem Ty.eqb_prod (a b c d : Ty) : Ty.eqb (.prod a b) (.prod c d) = (Ty.eqb a c && Ty.eqb b d) := by rw [Ty.eqb]; cases Ty.eqb a c <;> rfl
theorem Ty.eqb_arr (n m : Nat) (t u : Ty) : Ty.eqb (.arr n t) (.arr m u) = (Nat.beq n m && Ty.eqb t u) := by rw [Ty.eqb]; cases Nat.beq n m <;> rfl
theorem Ty.eq_of_eqb : ∀ {a b : Ty}, Ty.eqb a b = true → a = b := by
  intro a
  induction a with
  | int k => intro b h; cases b <;> simp [Ty.eqb] at h; rw [IntKind.eq_of_eqb h]
  | bool => intro b h; cases b <;> simp [Ty.eqb] at h; rfl
  | str => intro b h; cases b <;> simp [Ty.eqb] at h; rfl
  | unit => intro b h; cases b <;> simp [Ty.eqb] at h; rfl
  | prod x y ihx ihy => intro b h; cases b <;> try (simp [Ty.eqb] at h; done)
                        rw [Ty.eqb_prod] at h; simp at h; rw [ihx h.1, ihy h.2]
  | arr n t ih => intro b h; cases b <;> try (simp [Ty.eqb] at h; done)
                  rw [Ty.eqb_arr] at h; simp at h; rw [h.1, ih h.2]
  | list t ih => intro b h; cases b <;> simp [Ty.eqb] at h; rw [ih h]
  | st s => intro b h; cases b <;> simp [Ty.eqb] at h; rw [St.no_inj h]
theorem IntKind.eqb_self (a : IntKind) : IntKind.eqb a a = true := by cases a <;> rfl
theorem Ty.eqb_self (a : Ty) : Ty.eqb a a = true := by
  induction a with
  | prod a b iha ihb => rw [Ty.eqb_prod, iha, ihb]; rfl
  | arr n t ih => rw [Ty.eqb_arr, ih]; simp
  | _ => simp [Ty.eqb, IntKind.eqb_self, *]

abbrev St.den : St → Type
  | .key => Key | .box => Box | .entry => Entry | .tree => Tree | .batch => Batch | .seat => Seat | .item => Item | .rekey => Rekey | .request => Request | .reply => Reply
  | .sealed => Sealed | .message => Message | .card => Card | .member => Member | .record => Record | .reveal => Reveal | .lag => Lag
  | .field => Fld | .counter => Ctr | .writer => Wtr | .breader => Rdr | .rreader => RRd | .turned => Turned | .ask => Ask
abbrev Ty.den : Ty → Type
  | .int _ => Int
  | .bool => Bool
  | .str => ByteArray
  | .unit => Unit
  | .prod a b => a.den × b.den
  | .arr n t => Arr n t.den
  | .list t => List t.den
  | .st s => s.den

abbrev Ty.i : Ty := .int .i64
/-- A struct's fields. -/
def St.body : St → Ty
  | .key => .prod .i (.prod .i .unit)
  | .box => .prod (.st .key) (.prod (.st .key) .unit)
  | .entry => .prod .i (.prod .i (.prod .i .unit))
  | .tree => .prod .i (.prod .i (.prod (.arr 21 (.st .key)) (.prod (.arr 64 (.st .entry)) .unit)))
  | .batch => .prod (.list .i) (.prod (.list .i) .unit)
  | .seat => .prod .i (.prod .i .unit)
  | .item => .prod .i (.prod .i (.prod (.st .box) .unit))
  | .rekey => .prod .i (.prod (.list (.st .seat)) (.prod (.list (.st .seat)) (.prod (.list (.st .item)) .unit)))
  | .request => .prod .i (.prod .i .unit)
  | .reply => .prod .i (.prod .i (.prod .i (.prod (.arr 3 (.st .box)) .unit)))
  | .sealed => .prod .i (.prod (.st .key) (.prod .str .unit))
  | .message => .prod .i (.prod (.st .rekey) (.prod (.st .request) (.prod (.st .reply) (.prod (.st .sealed) .unit))))
  | .card => .prod .i (.prod .i (.prod .i (.prod (.st .key) .unit)))
  | .member => .prod .i (.prod .i (.prod .i (.prod (.st .key) (.prod (.arr 3 (.st .key)) (.prod .bool (.prod .bool (.prod .i .unit)))))))
  | .record => .prod .i (.prod .i (.prod (.list .i) (.prod (.list (.st .seat)) .unit)))
  | .reveal => .prod .i (.prod .i .unit)
  | .lag => .prod (.st .tree) (.prod (.list (.st .batch)) (.prod .i (.prod .bool (.prod .i .unit))))
  | .field => .prod (.int .u64) (.prod .i .unit)
  | .counter => .prod .i .unit
  | .writer => .prod (.st .counter) (.prod (.list (.int .u8)) .unit)
  | .breader => .prod (.st .counter) (.prod .str .unit)
  | .rreader => .prod (.list (.int .u8)) (.prod .i .unit)
  | .turned => .prod (.list (.st .batch)) (.prod (.list .i) (.prod (.st .tree) .unit))
  | .ask => .prod (.st .turned) (.prod (.list (.st .reveal)) (.prod .i (.prod .i (.prod .i (.prod .i .unit)))))
def St.unpack : (s : St) → s.den → s.body.den
  | .key, x => (x.Base, x.Step, ())
  | .box, x => (x.Under, x.Load, ())
  | .entry, x => (x.Who, x.Base, x.Since, ())
  | .tree, x => (x.Epoch, x.Fresh, x.Keys, x.Roster, ())
  | .batch, x => (x.Leaves, x.Joins, ())
  | .seat, x => (x.Who, x.Slot, ())
  | .item, x => (x.Node, x.From, x.Box, ())
  | .rekey, x => (x.Epoch, x.Leaves, x.Joins, x.Items, ())
  | .request, x => (x.Who, x.Epoch, ())
  | .reply, x => (x.Who, x.Slot, x.Epoch, x.Path, ())
  | .sealed, x => (x.Epoch, x.Under, x.Text, ())
  | .message, x => (x.Kind, x.Rekey, x.Request, x.Reply, x.Sealed, ())
  | .card, x => (x.Who, x.Slot, x.Epoch, x.Leaf, ())
  | .member, x => (x.Who, x.Slot, x.Epoch, x.Leaf, x.Path, x.Has, x.Out, x.Behind, ())
  | .record, x => (x.Epoch, x.Fresh, x.Leaves, x.Joins, ())
  | .reveal, x => (x.Who, x.Epoch, ())
  | .lag, x => (x.Tree, x.Script, x.Who, x.Bare, x.Behind, ())
  | .field, x => (x.Value, x.Width, ())
  | .counter, x => (x.n, ())
  | .writer, x => (x.counter, x.out, ())
  | .breader, x => (x.counter, x.text, ())
  | .rreader, x => (x.Bits, x.At, ())
  | .turned, x => (x.Script, x.At, x.Tree, ())
  | .ask, x => (x.Row, x.Seen, x.Who, x.From, x.To, x.Node, ())
def St.pack : (s : St) → s.body.den → s.den
  | .key, x => ⟨x.1, x.2.1⟩
  | .box, x => ⟨x.1, x.2.1⟩
  | .entry, x => ⟨x.1, x.2.1, x.2.2.1⟩
  | .tree, x => ⟨x.1, x.2.1, x.2.2.1, x.2.2.2.1⟩
  | .batch, x => ⟨x.1, x.2.1⟩
  | .seat, x => ⟨x.1, x.2.1⟩
  | .item, x => ⟨x.1, x.2.1, x.2.2.1⟩
  | .rekey, x => ⟨x.1, x.2.1, x.2.2.1, x.2.2.2.1⟩
  | .request, x => ⟨x.1, x.2.1⟩
  | .reply, x => ⟨x.1, x.2.1, x.2.2.1, x.2.2.2.1⟩
  | .sealed, x => ⟨x.1, x.2.1, x.2.2.1⟩
  | .message, x => ⟨x.1, x.2.1, x.2.2.1, x.2.2.2.1, x.2.2.2.2.1⟩
  | .card, x => ⟨x.1, x.2.1, x.2.2.1, x.2.2.2.1⟩
  | .member, x => ⟨x.1, x.2.1, x.2.2.1, x.2.2.2.1, x.2.2.2.2.1, x.2.2.2.2.2.1, x.2.2.2.2.2.2.1, x.2.2.2.2.2.2.2.1⟩
  | .record, x => ⟨x.1, x.2.1, x.2.2.1, x.2.2.2.1⟩
  | .reveal, x => ⟨x.1, x.2.1⟩
  | .lag, x => ⟨x.1, x.2.1, x.2.2.1, x.2.2.2.1, x.2.2.2.2.1⟩
  | .field, x => ⟨x.1, x.2.1⟩
  | .counter, x => ⟨x.1⟩
  | .writer, x => ⟨x.1, x.2.1⟩
  | .breader, x => ⟨x.1, x.2.1⟩
  | .rreader, x => ⟨x.1, x.2.1⟩
  | .turned, x => ⟨x.1, x.2.1, x.2.2.1⟩
  | .ask, x => ⟨x.1, x.2.1, x.2.2.1, x.2.2.2.1, x.2.2.2.2.1, x.2.2.2.2.2.1⟩
theorem St.pack_unpack (s : St) (x : s.den) : s.pack (s.unpack x) = x := by cases s <;> rfl
theorem St.unpack_pack (s : St) (x : s.body.den) : s.unpack (s.pack x) = x := by cases s <;> rfl

def St.zero : (s : St) → s.den
  | .key => default | .box => default | .entry => default | .tree => default | .batch => default | .seat => default | .item => default | .rekey => default
  | .request => default | .reply => default | .sealed => default | .message => default | .card => default | .member => default | .record => default | .reveal => default | .lag => default
  | .field => default | .counter => default | .writer => default | .breader => default | .rreader => default | .turned => default | .ask => default
def Ty.zero : (t : Ty) → t.den
  | .int _ => (0 : Int)
  | .bool => false
  | .str => ByteArray.empty
  | .unit => ()
  | .prod a b => (a.zero, b.zero)
  | .arr n t => Vector.replicate n t.zero
  | .list _ => []
  | .st s => s.zero
instance Ty.inhabited (t : Ty) : Inhabited t.den := ⟨t.zero⟩

def St.decEq : (s : St) → DecidableEq s.den
  | .key => inferInstanceAs (DecidableEq Key) | .box => inferInstanceAs (DecidableEq Box) | .entry => inferInstanceAs (DecidableEq Entry) | .tree => inferInstanceAs (DecidableEq Tree)
  | .batch => inferInstanceAs (DecidableEq Batch) | .seat => inferInstanceAs (DecidableEq Seat) | .item => inferInstanceAs (DecidableEq Item) | .rekey => inferInstanceAs (DecidableEq Rekey)
  | .request => inferInstanceAs (DecidableEq Request) | .reply => inferInstanceAs (DecidableEq Reply) | .sealed => inferInstanceAs (DecidableEq Sealed) | .message => inferInstanceAs (DecidableEq Message)
  | .card => inferInstanceAs (DecidableEq Card) | .member => inferInstanceAs (DecidableEq Member) | .record => inferInstanceAs (DecidableEq Record) | .reveal => inferInstanceAs (DecidableEq Reveal)
  | .lag => inferInstanceAs (DecidableEq Lag) | .field => inferInstanceAs (DecidableEq Fld) | .counter => inferInstanceAs (DecidableEq Ctr) | .writer => inferInstanceAs (DecidableEq Wtr) | .breader => inferInstanceAs (DecidableEq Rdr)
  | .rreader => inferInstanceAs (DecidableEq RRd) | .turned => inferInstanceAs (DecidableEq Turned) | .ask => inferInstanceAs (DecidableEq Ask)
def Ty.decEq : (t : Ty) → DecidableEq t.den
  | .int _ => inferInstanceAs (DecidableEq Int)
  | .bool => inferInstanceAs (DecidableEq Bool)
  | .str => inferInstanceAs (DecidableEq ByteArray)
  | .unit => inferInstanceAs (DecidableEq Unit)
  | .prod a b => @instDecidableEqProd _ _ a.decEq b.decEq
  | .arr n t => @instDecidableEqVector t.den n t.decEq
  | .list t => @instDecidableEqList t.den t.decEq
  | .st s => s.decEq

/-- How many cells a datum takes. -/
def St.size : St → Nat
  | .key => 2 | .box => 4 | .entry => 3 | .tree => 236 | .batch => 2 | .seat => 2 | .item => 6 | .rekey => 4 | .request => 2 | .reply => 15 | .sealed => 4 | .message => 26 | .card => 5
  | .member => 14 | .record => 4 | .reveal => 2 | .lag => 240 | .field => 2 | .counter => 1 | .writer => 2 | .breader => 2 | .rreader => 2 | .turned => 238 | .ask => 243
def Ty.size : Ty → Nat
  | .int _ => 1
  | .bool => 1
  | .str => 1
  | .unit => 0
  | .prod a b => a.size + b.size
  | .arr n t => n * t.size
  | .list _ => 1
  | .st s => s.size
theorem St.size_body (s : St) : s.body.size = s.size := by cases s <;> rfl
/-- How many bytes. -/
def St.bytes : St → Nat
  | .key => 16 | .box => 32 | .entry => 24 | .tree => 1888 | .batch => 48 | .seat => 16 | .item => 48 | .rekey => 80 | .request => 16 | .reply => 120 | .sealed => 40 | .message => 264 | .card => 40
  | .member => 104 | .record => 64 | .reveal => 16 | .lag => 1936 | .field => 16 | .counter => 8 | .writer => 32 | .breader => 24 | .rreader => 32 | .turned => 1936 | .ask => 1992
def IntKind.bytes : IntKind → Nat
  | .i8 => 1 | .u8 => 1 | .i16 => 2 | .u16 => 2 | .i32 => 4 | .u32 => 4 | .i64 => 8 | .u64 => 8
def Ty.bytes : Ty → Nat
  | .int k => IntKind.bytes k
  | .bool => 1
  | .str => 16
  | .unit => 0
  | .prod a b => a.bytes + b.bytes
  | .arr n t => n * t.bytes
  | .list _ => 24
  | .st s => s.bytes
/-- Is it told by one value of several cells? -/
def Ty.agg : Ty → Bool
  | .unit | .prod .. | .arr .. | .st _ => true
  | _ => false
/-- Has it a slice in it? -/
def Ty.lists : Ty → Bool
  | .list _ => true
  | .prod a b => a.lists || b.lists
  | .arr _ t => t.lists
  | .st s => match s with | .batch | .rekey | .message | .record | .lag | .writer | .rreader | .turned | .ask => true | _ => false
  | _ => false

/-! ### Weights of kinds -/
def St.wt : St → Nat
  | .key => 10 | .box => 30 | .entry => 10 | .tree => 40 | .batch => 10 | .seat => 10 | .item => 50 | .rekey => 100 | .request => 10 | .reply => 50 | .sealed => 20 | .message => 200 | .card => 30
  | .member => 50 | .record => 30 | .reveal => 10 | .lag => 100 | .field => 10 | .counter => 10 | .writer => 30 | .breader => 30 | .rreader => 10 | .turned => 100 | .ask => 200
def Ty.wt : Ty → Nat
  | .int _ | .bool | .str | .unit => 1
  | .prod a b => a.wt + b.wt + 1
  | .arr _ t => t.wt + 1
  | .list t => t.wt + 1
  | .st s => s.wt

/-! ### A part of a datum -/
/-- A step to a part: a field, an element. -/
inductive PS where
  | fld (i : Nat)
  | idx (i : Int)

structure Dyn where
  t : Ty
  x : t.den

def cast? (t u : Ty) (x : t.den) : Option u.den :=
  match h : Ty.eqb t u with
  | true => some (Ty.eq_of_eqb h ▸ x)
  | false => none

def nthTy : Ty → Nat → Option Ty
  | .prod a _, 0 => some a
  | .prod _ b, i + 1 => nthTy b i
  | _, _ => none
def nthOff : Ty → Nat → Nat
  | .prod a b, i + 1 => a.size + nthOff b i
  | _, _ => 0
def getNth : (t : Ty) → t.den → Nat → Option Dyn
  | .prod a _, x, 0 => some ⟨a, x.1⟩
  | .prod _ b, x, i + 1 => getNth b x.2 i
  | _, _, _ => none
def modNth : (t : Ty) → t.den → Nat → ((u : Ty) → u.den → Option u.den) → Option t.den
  | .prod a _, x, 0, f => match f a x.1 with | some y => some (y, x.2) | none => none
  | .prod _ b, x, i + 1, f => match modNth b x.2 i f with | some y => some (x.1, y) | none => none
  | _, _, _, _ => none
def getFld (t : Ty) (x : t.den) (i : Nat) : Option Dyn :=
  match t, x with
  | .st s, x => getNth s.body (s.unpack x) i
  | _, _ => none
def modFld (t : Ty) (x : t.den) (i : Nat) (f : (u : Ty) → u.den → Option u.den) : Option t.den :=
  match t, x with
  | .st s, x => match modNth s.body (s.unpack x) i f with | some y => some (s.pack y) | none => none
  | _, _ => none
/-- The kind of a part, and the cell at which it begins. -/
def tyAt : Ty → List PS → Option (Ty × Nat)
  | t, [] => some (t, 0)
  | .st s, .fld i :: p =>
    match nthTy s.body i with
    | some u => match tyAt u p with | some (v, o) => some (v, nthOff s.body i + o) | none => none
    | none => none
  | .arr _ t, .idx i :: p => match tyAt t p with | some (v, o) => some (v, i.toNat * t.size + o) | none => none
  | _, _ :: _ => none
/-- Do all indexes lie in their arrays? -/
def inRange : Ty → List PS → Prop
  | _, [] => True
  | .st s, .fld i :: p => match nthTy s.body i with | some u => inRange u p | none => False
  | .arr n t, .idx i :: p => 0 ≤ i ∧ i < n ∧ inRange t p
  | _, _ :: _ => False
def getAt : (t : Ty) → t.den → List PS → Option Dyn
  | t, x, [] => some ⟨t, x⟩
  | t, x, .fld i :: p => match getFld t x i with | some d => getAt d.t d.x p | none => none
  | .arr _ t, x, .idx i :: p => getAt t (Arr.get x i) p
  | _, _, .idx _ :: _ => none
def setAt : (t : Ty) → t.den → List PS → Dyn → Option t.den
  | t, _, [], d => cast? d.t t d.x
  | t, x, .fld i :: p, d => modFld t x i fun u y => setAt u y p d
  | .arr _ t, x, .idx i :: p, d => match setAt t (Arr.get x i) p d with | some y => some (Arr.put x i y) | none => none
  | _, _, .idx _ :: _, _ => none

end Go.Co
end

section
namespace Go.Co

/-- What stands in a slot. -/
inductive AV where
  | junk
  | val (t : Ty) (x : t.den)
  /-- the nil slice -/
  | nils
  /-- a pointer into memory that nobody writes: what lies there -/
  | eptr (t : Ty) (x : t.den)
  /-- a pointer to a part of the variable b -/
  | ptr (b : Nat) (p : List PS)
  /-- the slice of the row b, whole -/
  | sl (b : Nat)
  /-- a part of the row b: from lo to hi -/
  | ssl (b : Nat) (lo hi : Int)
  /-- the slice over the whole array at a part of the variable b -/
  | asl (b : Nat) (p : List PS)
  | mp (b : Nat)
  /-- a function, and the variables that it captured -/
  | fn (f : Nat) (caps : List Nat)
  | nilp
  /-- the nil map, in a variable -/
  | nilm
  | tup (l : AV)
  /-- a struct that isn't all plain data -/
  | agv (s : St) (l : AV)
  | nil
  | cons (a l : AV)

/-- A variable, a row of elements, a map. -/
inductive AB where
  | none
  | dead
  /-- a row that was let go: nobody writes it from now on -/
  | frz (t : Ty) (xs : List t.den)
  | var (t : Ty) (v : AV)
  | slab (t : Ty) (xs : List t.den)
  | map (k v : Ty) (m : List (k.den × v.den))

structure AS where
  slots : Nat → AV
  mem : Nat → AB
  nx : Nat

abbrev Mem := Nat → AB
def Mem.put (m : Mem) (b : Nat) (x : AB) : Mem := fun i => match Nat.beq i b with | true => x | false => m i
def AS.put (s : AS) (d : Nat) (v : AV) : AS := { s with slots := fun i => match Nat.beq i d with | true => v | false => s.slots i }

def _root_.List.snoc {α : Type} : List α → α → List α
  | [], x => [x]
  | a :: l, x => a :: l.snoc x
def catL {α : Type} : List α → List α → List α
  | [], l => l
  | a :: r, l => a :: catL r l

/-- What a type's number stands for. -/
inductive TE where
  | ty (t : Ty)
  | mp (k v : Ty)
  /-- one cell: a pointer, a function -/
  | one
  /-- a pointer -/
  | pt
abbrev Tab := List (Nat × TE)
def Tab.get : Tab → Nat → Option TE
  | [], _ => Option.none
  | (i, e) :: r, n => match Nat.beq n i with | true => some e | false => Tab.get r n

/-- The greatest number of a kind. -/
def maxOf : IntKind → Nat
  | .i8 => 127 | .i16 => 32767 | .i32 => 2147483647 | .i64 => 9223372036854775807 | .u8 => 255 | .u16 => 65535 | .u32 => 4294967295 | .u64 => 18446744073709551615
def inKind (k : IntKind) : Int → Bool
  | .ofNat n => Nat.ble n (maxOf k)
  | .negSucc n => match k.signed with | true => Nat.ble n (maxOf k) | false => false
/-- The most bytes of a slice or a text. -/
def top : Nat := 140737488355328

def cv : Value → AV
  | .bool b => .val .bool b
  | .int k n => match inKind k n with | true => .val (.int k) n | false => .junk
  | .string s => match Nat.ble s.size top with | true => .val .str s | false => .junk
  | .pointer Option.none => .nilp
  | .slice Option.none 0 0 => .nils
  | _ => .junk
def opv (slots : Nat → AV) : Operand → AV
  | .tmp t => slots t
  | .const v => cv v
  | .func f => .fn f []
  | .global _ => .junk

def nthAV : AV → Nat → Option AV
  | .cons a _, 0 => some a
  | .cons _ l, i + 1 => nthAV l i
  | _, _ => Option.none
def setNthAV : AV → Nat → AV → Option AV
  | .cons _ l, 0, y => some (.cons y l)
  | .cons a l, i + 1, y => match setNthAV l i y with | some l' => some (.cons a l') | Option.none => Option.none
  | _, _, _ => Option.none
def AV.ofList : List AV → AV
  | [] => .nil
  | a :: l => .cons a (AV.ofList l)

def isList : Ty → Bool
  | .list _ => true
  | _ => false
/-- Has it the kind? -/
def AV.has : AV → Ty → Bool
  | .val t _, u => Ty.eqb t u
  | .nils, u => isList u
  | .sl _, u => isList u
  | .ssl _ _ _, u => isList u
  | .asl _ _, u => isList u
  | .agv s l, .st s' => Nat.beq s.no s'.no && l.has s.body
  | .nil, .unit => true
  | .cons a l, .prod x y => a.has x && l.has y
  -- a variable that holds a map: one cell
  | .mp _, .bool => true
  | .nilm, .bool => true
  -- a variable that holds a pointer: one cell
  | .ptr _ _, .bool => true
  | .nilp, .bool => true
  | _, _ => false
def AV.hasE : AV → TE → Bool
  | v, .ty t => v.has t
  | .mp _, .mp _ _ => true
  | .ptr _ _, .one => true
  | .eptr _ _, .one => true
  | .fn _ _, .one => true
  | .nilp, .one => true
  | .ptr _ _, .pt => true
  | .eptr _ _, .pt => true
  | .nilp, .pt => true
  | _, _ => false

/-- A struct's fields as values. -/
def exBody : (b : Ty) → b.den → AV
  | .prod a b, x => .cons (.val a x.1) (exBody b x.2)
  | _, _ => .nil
/-- The zero fields: nil slices are told as such. -/
def zeroV : Ty → AV
  | .list _ => .nils
  | .st s => match (Ty.st s).lists with | true => .agv s (exZero s.body) | false => .val (.st s) s.zero
  | t => .val t t.zero
where exZero : Ty → AV
  | .prod (.list _) b => .cons .nils (exZero b)
  | .prod a b => .cons (.val a a.zero) (exZero b)
  | _ => .nil

def loadAV : AV → List PS → Option AV
  | v, [] => some v
  | .val t x, s :: p => match getAt t x (s :: p) with | some d => some (.val d.t d.x) | Option.none => Option.none
  | .agv _ l, .fld i :: p => match nthAV l i with | some a => loadAV a p | Option.none => Option.none
  | _, _ :: _ => Option.none
def storeAV : AV → List PS → AV → Option AV
  | _, [], y => some y
  | .val t x, s :: p, y =>
    match y with
    | .val u d => match setAt t x (s :: p) ⟨u, d⟩ with | some x' => some (.val t x') | Option.none => Option.none
    | y => match t, x, s with
      | .st S, x, .fld i => match nthAV (exBody S.body (S.unpack x)) i with
        | some a => match storeAV a p y with
          | some a' => match setNthAV (exBody S.body (S.unpack x)) i a' with | some l' => some (.agv S l') | Option.none => Option.none
          | Option.none => Option.none
        | Option.none => Option.none
      | _, _, _ => Option.none
  | .agv S l, .fld i :: p, y =>
    match nthAV l i with
    | some a => match storeAV a p y with
      | some a' => match setNthAV l i a' with | some l' => some (.agv S l') | Option.none => Option.none
      | Option.none => Option.none
    | Option.none => Option.none
  | _, _ :: _, _ => Option.none

/-- The kind of a part of a block. -/
def AB.tyAt : AB → List PS → Option Ty
  | .var t _, p => match Co.tyAt t p with | some (u, _) => some u | Option.none => Option.none
  | .slab t _, .idx _ :: p => match Co.tyAt t p with | some (u, _) => some u | Option.none => Option.none
  | _, _ => Option.none
def AB.load : AB → List PS → Option AV
  | .var _ v, p => loadAV v p
  | .slab t xs, .idx i :: p => match getAt t (lat xs i) p with | some d => some (.val d.t d.x) | Option.none => Option.none
  | _, _ => Option.none
def lput {α : Type} (l : List α) (i : Int) (x : α) : List α := l.set i.toNat x
def AB.store : AB → List PS → AV → Option AB
  | .var t v, p, y => match storeAV v p y with | some v' => some (.var t v') | Option.none => Option.none
  | .slab t xs, .idx i :: p, .val u d => match setAt t (lat xs i) p ⟨u, d⟩ with | some x => some (.slab t (lput xs i x)) | Option.none => Option.none
  | _, _, _ => Option.none

/-- A list's part. -/
def cutL {α : Type} (lo hi : Int) (xs : List α) : List α := match lo with | .ofNat 0 => List.take hi.toNat xs | lo => List.drop lo.toNat (List.take hi.toNat xs)
theorem cutL_eq {α : Type} {lo hi : Int} {xs : List α} (_ : 0 ≤ lo) : cutL lo hi xs = (xs.take hi.toNat).drop lo.toNat := by
  unfold cutL
  split
  · simp
  · rfl
def lenC (lo hi : Int) : Int := match lo with | .ofNat 0 => hi | lo => hi - lo
theorem lenC_eq (lo hi : Int) : lenC lo hi = hi - lo := by
  unfold lenC
  split
  · simp
  · rfl
def addC (lo i : Int) : Int := match lo with | .ofNat 0 => i | lo => lo + i
theorem addC_eq (lo i : Int) : addC lo i = lo + i := by
  unfold addC
  split
  · simp
  · rfl
def asListOf (u : Ty) (e : Ty) (xs : List e.den) : Option u.den := cast? (.list e) u xs
/-- As plain data of the kind. -/
def toPure (m : Mem) : AV → (u : Ty) → Option u.den
  | .val t x, u => cast? t u x
  | .nils, .list _ => some []
  | .sl b, u => match m b with | .slab e xs => asListOf u e xs | .frz e xs => asListOf u e xs | _ => Option.none
  | .ssl b lo hi, u => match m b with | .slab e xs => asListOf u e (cutL lo hi xs) | .frz e xs => asListOf u e (cutL lo hi xs) | _ => Option.none
  | .asl b p, u => match (m b).load p with | some (.val (.arr _ e) x) => asListOf u e x.toList | _ => Option.none
  | .agv s l, .st s' => match toPure m l s.body with | some y => cast? (.st s) (.st s') (s.pack y) | Option.none => Option.none
  | .nil, .unit => some ()
  | .cons a l, .prod x y => match toPure m a x, toPure m l y with | some p, some q => some (p, q) | _, _ => Option.none
  | _, _ => Option.none
/-- Is it a row that may be let go? (no slice over a variable's array) -/
def letsGo : AV → Bool
  | .asl _ _ => false
  | .agv _ l => letsGo l
  | .cons a l => letsGo a && letsGo l
  | _ => true
def frzAB : AB → AB
  | .slab t xs => .frz t xs
  | .frz t xs => .frz t xs
  | _ => .dead
/-- Its rows are let go: from now on nobody writes them. -/
def kill : AV → Mem → Mem
  | .sl b, m => m.put b (frzAB (m b))
  | .ssl b _ _, m => m.put b (frzAB (m b))
  | .agv _ l, m => kill l m
  | .cons a l, m => kill l (kill a m)
  | _, m => m

/-- Whole numbers of kinds. -/
def bw (op : BinOp) (k : IntKind) (x y : Int) : Int :=
  let a := BitVec.ofInt k.bits x
  let b := BitVec.ofInt k.bits y
  k.wrap (match op with | .and => a &&& b | .or => a ||| b | .xor => a ^^^ b | _ => a &&& ~~~b).toNat
def shlI (k : IntKind) (x y : Int) : Int := k.wrap (x * 2 ^ (min y.toNat k.bits))
def shrI (k : IntKind) (x y : Int) : Int := x.fdiv (2 ^ (min y.toNat k.bits))
/-- A text's byte. -/
def bat (s : ByteArray) (i : Int) : Int := (s.data.getD i.toNat 0).toNat

section
variable {R : Type}
abbrev KO (R : Type) := AV → Mem → Nat → Option R

def guardK (c : Bool) (r : Option R) : Option R := bif c then r else Option.none

def intOp (op : BinOp) (k l : IntKind) (a b : Int) (K : AV → Option R) : Option R :=
  match op with
  | .shl => match l.signed with
    | true => guardK (decide (0 ≤ b)) (K (.val (.int k) (shlI k a b)))
    | false => K (.val (.int k) (shlI k a b))
  | .shr => match l.signed with
    | true => guardK (decide (0 ≤ b)) (K (.val (.int k) (shrI k a b)))
    | false => K (.val (.int k) (shrI k a b))
  | op => match IntKind.eqb k l with
    | false => Option.none
    | true => match op with
      | .add => K (.val (.int k) (k.wrap (a + b)))
      | .sub => K (.val (.int k) (k.wrap (a - b)))
      | .mul => K (.val (.int k) (k.wrap (a * b)))
      | .quo => guardK (!decide (b = 0)) (K (.val (.int k) (k.wrap (a.tdiv b))))
      | .rem => guardK (!decide (b = 0)) (K (.val (.int k) (a.tmod b)))
      | .and => K (.val (.int k) (bw .and k a b))
      | .or => K (.val (.int k) (bw .or k a b))
      | .xor => K (.val (.int k) (bw .xor k a b))
      | .andNot => K (.val (.int k) (bw .andNot k a b))
      | .eql => K (.val .bool (decide (a = b)))
      | .neq => K (.val .bool (!decide (a = b)))
      | .lss => K (.val .bool (decide (a < b)))
      | .leq => K (.val .bool (decide (a ≤ b)))
      | .gtr => K (.val .bool (decide (b < a)))
      | .geq => K (.val .bool (decide (b ≤ a)))
      | _ => Option.none
def eqOp (op : BinOp) (t : Ty) (a b : t.den) (K : AV → Option R) : Option R :=
  match t.lists, Nat.ble t.wt 10000 with
  | true, _ => Option.none
  | _, false => Option.none
  | false, true => match op with
    | .eql => K (.val .bool (@decide (a = b) (t.decEq a b)))
    | .neq => K (.val .bool (!@decide (a = b) (t.decEq a b)))
    | _ => Option.none
def strOp (op : BinOp) (a b : ByteArray) (K : AV → Option R) : Option R :=
  match op with
  | .add => guardK (decide (a.size + b.size ≤ top)) (K (.val .str (a ++ b)))
  | op => eqOp op .str a b K
def binK (op : BinOp) (e : TE) (x y : AV) (K : AV → Option R) : Option R :=
  match x, y with
  | .val (.int k) a, .val (.int l) b => intOp op k l a b K
  | .val .str a, .val .str b => strOp op a b K
  | .val t a, .val u b => match cast? u t b, e with
    | some b', .ty t' => match Ty.eqb t t' with
      | true => eqOp op t a b' K
      | false => Option.none
    | _, _ => Option.none
  | _, _ => Option.none
def unK (op : UnOp) (x : AV) (K : AV → Option R) : Option R :=
  match op, x with
  | .not, .val .bool b => K (.val .bool (!b))
  | .neg, .val (.int k) n => K (.val (.int k) (k.wrap (0 - n)))
  | .xor, .val (.int k) n => K (.val (.int k) (bw .xor k (match k.signed with | true => -1 | false => k.max) n))
  | _, _ => Option.none

def capNames : List AV → Option (List Nat)
  | [] => some []
  | .ptr b [] :: r => match capNames r with | some l => some (b :: l) | Option.none => Option.none
  | .mp b :: r => match capNames r with | some l => some (b :: l) | Option.none => Option.none
  | _ => Option.none
/-- What a closure holds: a variable, a map. -/
def capAV (m : Mem) (b : Nat) : AV := match m b with
  | .var _ _ => .ptr b []
  | .map _ _ _ => .mp b
  | _ => .junk
def setParts (b : Ty) : AV → List (Nat × AV) → Option AV
  | l, [] => some l
  | l, (i, v) :: r => match nthTy b i with
    | some u => match v.has u, setNthAV l i v with
      | true, some l' => setParts b l' r
      | _, _ => Option.none
    | Option.none => Option.none
/-- Fields that are all plain data, as one datum. -/
def packBody : (b : Ty) → AV → Option b.den
  | .prod x y, .cons (.val t a) l => match cast? t x a, packBody y l with | some p, some q => some (p, q) | _, _ => Option.none
  | .unit, .nil => some ()
  | _, _ => Option.none
def buildSt (s : St) (parts : List (Nat × AV)) : Option AV :=
  match setParts s.body (zeroV.exZero s.body) parts with
  | some l => match packBody s.body l with
    | some y => some (.val (.st s) (s.pack y))
    | Option.none => some (.agv s l)
  | Option.none => Option.none
def buildArr (n : Nat) (t : Ty) (a : Arr n t.den) : List (Nat × AV) → Option (Arr n t.den)
  | [] => some a
  | (i, .val u x) :: r => match Nat.blt i n, cast? u t x with
    | true, some y => buildArr n t (Arr.put a (i : Int) y) r
    | _, _ => Option.none
  | _ => Option.none
/-- The elements of a slice's literal: those places that it names. -/
def buildRow (m : Mem) (t : Ty) (l : List t.den) : List (Nat × AV) → Option (List t.den × Mem)
  | [] => some (l, m)
  | (i, v) :: r => match Nat.blt i l.length, letsGo v, toPure m v t with
    | true, true, some y => buildRow (kill v m) t (l.set i y) r
    | _, _, _ => Option.none

/-- The row that a slice stands for: its elements. -/
def rowOf (m : Mem) : AV → (t : Ty) → Option (List t.den)
  | .val (.list e) xs, t => cast? (.list e) (.list t) xs
  | .nils, _ => some []
  | .sl b, t => match m b with | .slab e xs => cast? (.list e) (.list t) xs | _ => Option.none
  | .asl b p, t => match (m b).load p with | some (.val (.arr _ e) x) => cast? (.list e) (.list t) x.toList | _ => Option.none
  | _, _ => Option.none

/-- A row that was let go is plain data. -/
def rz (m : Mem) : AV → AV
  | .sl b => match m b with | .frz t xs => .val (.list t) xs | _ => .sl b
  | .ssl b lo hi => match m b with | .frz t xs => .val (.list t) (cutL lo hi xs) | _ => .ssl b lo hi
  | v => v
def lenK (T : Tab) (tid : Nat) (m : Mem) (x : AV) (K : AV → Option R) : Option R :=
  match T.get tid, x with
  | some (.ty .str), .val .str s => K (.val .i (s.size : Int))
  | some (.ty (.list _)), .val (.list _) xs => K (.val .i (List.length xs : Int))
  | some (.ty (.list _)), .nils => K (.val .i (0 : Int))
  | some (.ty (.list _)), .sl b => match m b with | .slab _ xs => K (.val .i (List.length xs : Int)) | _ => Option.none
  | some (.ty (.list _)), .ssl _ lo hi => K (.val .i (lenC lo hi))
  | some (.ty (.list _)), .asl b p => match (m b).tyAt p with | some (.arr n _) => K (.val .i (n : Int)) | _ => Option.none
  | some (.ty (.arr n _)), _ => match Nat.ble n 9223372036854775807 with | true => K (.val .i (n : Int)) | false => Option.none
  | some (.mp _ _), .mp b => match m b with | .map _ _ l => guardK (decide (List.length l ≤ top)) (K (.val .i (List.length l : Int))) | _ => Option.none
  | _, _ => Option.none

def appendK (T : Tab) (tid uid : Nat) (m : Mem) (nx : Nat) (s x : AV) (K : KO R) : Option R :=
  match Nat.beq tid uid, T.get tid with
  | true, some (.ty (.list t)) =>
    match Nat.ble 1 t.bytes, s, rowOf m x t with
    | true, .nils, some ys => guardK (decide (List.length ys * t.bytes ≤ top)) (K (.sl nx) (m.put nx (.slab t ys)) (nx + 1))
    | true, .sl b, some ys => match m b with
      | .slab e xs => match cast? (.list e) (.list t) xs with
        | some xs => guardK (decide ((List.length xs + List.length ys) * t.bytes ≤ top)) (K (.sl nx) ((m.put b .dead).put nx (.slab t (List.append xs ys))) (nx + 1))
        | Option.none => Option.none
      | _ => Option.none
    | _, _, _ => Option.none
  | _, _ => Option.none

/-- Keys that are held against one another cell by cell. -/
def simpleKey : Ty → Bool
  | .int _ | .bool | .str => true
  | _ => false
def mget {α β : Type} [DecidableEq α] (l : List (α × β)) (k : α) : Option β := match l.find? (fun e => decide (e.1 = k)) with | some e => some e.2 | Option.none => Option.none
def mput {α β : Type} [DecidableEq α] : List (α × β) → α → β → List (α × β)
  | [], k, v => [(k, v)]
  | e :: r, k, v => if e.1 = k then (k, v) :: r else e :: mput r k v

/-- How a piece of code ends. -/
inductive AExit where
  | normal
  | exit (id : Nat)
  | ret

/-- What a function is known to answer. -/
abbrev denL : List Ty → Type
  | [] => Unit
  | t :: r => t.den × denL r
structure Con where
  args : List Ty
  res : List Ty
  fn : denL args → Option (denL res)
abbrev Cons' := List (Nat × Con)
def conOf : Cons' → Nat → Option Con
  | [], _ => Option.none
  | (i, c) :: r, n => match Nat.beq n i with | true => some c | false => conOf r n
def toPureL (m : Mem) : (l : List Ty) → List AV → Option (denL l)
  | [], [] => some ()
  | t :: r, v :: vs => match toPure m v t, toPureL m r vs with | some x, some y => some (x, y) | _, _ => Option.none
  | _, _ => Option.none
def resVs : (l : List Ty) → denL l → AV
  | [], _ => .nil
  | t :: r, x => .cons (.val t x.1) (resVs r x.2)
def resAV : (l : List Ty) → denL l → AV
  | [t], x => .val t x.1
  | l, x => .tup (resVs l x)
def killL : List AV → Mem → Mem
  | [], m => m
  | v :: r, m => killL r (kill v m)

structure EE where
  T : Tab
  con : Cons'
  lp : Nat → ((R : Type) → AS → (AExit → AS → Option R) → Option R) → (R : Type) → AS → (AExit → AS → Option R) → Option R
  inl : (R : Type) → Nat → List AV → Mem → Nat → KO R → Option R
  /-- functions whose answers' slices are new memory -/
  fr : List Nat := []
  /-- pieces of code told by themselves, by their first region's number -/
  sp : Nat → Option ((R : Type) → AS → (AS → Option R) → Option R) := fun _ => none

def conK (c : Con) (vs : List AV) (m : Mem) (nx : Nat) (K : KO R) : Option R :=
  match toPureL m c.args vs with
  | Option.none => Option.none
  | some x => match c.res.any Ty.lists with
    | false => (c.fn x).bind fun y => K (resAV c.res y) m nx
    | true => match vs.all letsGo with
      | true => (c.fn x).bind fun y => K (resAV c.res y) (killL vs m) nx
      | false => Option.none
/-- Answers whose slices are new rows. -/
def frF : (a : Ty) → a.den → Nat → AV
  | .list _, _, k => .sl k
  | a, x, _ => .val a x
def frRF : (a : Ty) → a.den → List AB
  | .list t, x => [.slab t x]
  | _, _ => []
def frNF : Ty → Nat
  | .list _ => 1
  | _ => 0
def frB : (b : Ty) → b.den → Nat → AV
  | .prod a b, x, k => .cons (frF a x.1 k) (frB b x.2 (k + frNF a))
  | _, _, _ => .nil
def frRB : (b : Ty) → b.den → List AB
  | .prod a b, x => catL (frRF a x.1) (frRB b x.2)
  | _, _ => []
def frNB : Ty → Nat
  | .prod a b => frNF a + frNB b
  | _ => 0
def frV : (t : Ty) → t.den → Nat → AV
  | .st s, x, k => match (Ty.st s).lists with | true => .agv s (frB s.body (s.unpack x) k) | false => .val (.st s) x
  | t, x, k => frF t x k
def frR : (t : Ty) → t.den → List AB
  | .st s, x => match (Ty.st s).lists with | true => frRB s.body (s.unpack x) | false => []
  | t, x => frRF t x
def frN : Ty → Nat
  | .st s => match (Ty.st s).lists with | true => frNB s.body | false => 0
  | t => frNF t
def frL : (l : List Ty) → denL l → Nat → AV
  | [], _, _ => .nil
  | t :: r, x, k => .cons (frV t x.1 k) (frL r x.2 (k + frN t))
def frRL : (l : List Ty) → denL l → List AB
  | [], _ => []
  | t :: r, x => catL (frR t x.1) (frRL r x.2)
def frNL : List Ty → Nat
  | [] => 0
  | t :: r => frN t + frNL r
def frAV : (l : List Ty) → denL l → Nat → AV
  | [t], x, k => frV t x.1 k
  | l, x, k => .tup (frL l x k)
def nthB : List AB → Nat → AB
  | [], _ => .none
  | a :: _, 0 => a
  | _ :: r, i + 1 => nthB r i
def putRows (m : Mem) (k n : Nat) (rows : List AB) : Mem := fun b => match Nat.ble k b, Nat.blt b (k + n) with | true, true => nthB rows (b - k) | _, _ => m b
def fconK (c : Con) (vs : List AV) (m : Mem) (nx : Nat) (K : KO R) : Option R :=
  match toPureL m c.args vs with
  | Option.none => Option.none
  | some x => (c.fn x).bind fun y => K (frAV c.res y nx) (putRows m nx (frNL c.res) (frRL c.res y)) (nx + frNL c.res)
def inL (l : List Nat) (n : Nat) : Bool := match l with | [] => false | a :: r => match Nat.beq n a with | true => true | false => inL r n
def callK (E : EE) (f : Nat) (vs : List AV) (m : Mem) (nx : Nat) (K : KO R) : Option R :=
  match conOf E.con f with
  | some c => match inL E.fr f with
    | true => fconK c vs m nx K
    | false => conK c vs m nx K
  | Option.none => E.inl R f vs m nx K

def minmaxK (mx : Bool) (vs : List AV) (K : AV → Option R) : Option R :=
  match vs with
  | [.val (.int k) a, .val (.int l) b] => match IntKind.eqb k l with
    | true => K (.val (.int k) (match mx with | true => max a b | false => min a b))
    | false => Option.none
  | _ => Option.none

def builtinK (E : EE) (b : Builtin) (tys : List Nat) (vs : List AV) (m : Mem) (nx : Nat) (K : KO R) : Option R :=
  match b, tys, vs with
  | .len, [t], [x] => lenK E.T t m x fun v => K v m nx
  | .append, [t, u], [s, x] => appendK E.T t u m nx s x K
  | .max, _, vs => minmaxK true vs fun v => K v m nx
  | .min, _, vs => minmaxK false vs fun v => K v m nx
  | _, _, _ => Option.none

/-- The address of an element. -/
def indexAddrK (T : Tab) (tid : Nat) (m : Mem) (x i : AV) (K : AV → Option R) : Option R :=
  match i, T.get tid with
  | .val (.int _) i, some (.ty (.arr n e)) => match x with
    | .ptr b p => match (m b).tyAt p with
      | some u => match Ty.eqb u (.arr n e) with
        | true => guardK (decide (0 ≤ i) && decide (i < (n : Int))) (K (.ptr b (p.snoc (.idx i))))
        | false => Option.none
      | Option.none => Option.none
    | .eptr u a => match cast? u (.arr n e) a with
      | some a => guardK (decide (0 ≤ i) && decide (i < (n : Int))) (K (.eptr e (Arr.get a i)))
      | Option.none => Option.none
    | _ => Option.none
  | .val (.int _) i, some (.ty (.list e)) => match x with
    | .val u a => match cast? u (.list e) a with
      | some xs => guardK (decide (0 ≤ i) && decide (i < (List.length xs : Int))) (K (.eptr e (lat xs i)))
      | Option.none => Option.none
    | .sl b => match m b with
      | .slab u xs => match Ty.eqb u e with
        | true => guardK (decide (0 ≤ i) && decide (i < (List.length xs : Int))) (K (.ptr b [.idx i]))
        | false => Option.none
      | _ => Option.none
    | .ssl b lo hi => match m b with
      | .slab u _ => match Ty.eqb u e with
        | true => guardK (decide (0 ≤ i) && decide (i < lenC lo hi)) (K (.ptr b [.idx (addC lo i)]))
        | false => Option.none
      | _ => Option.none
    | .asl b p => match (m b).tyAt p with
      | some (.arr n u) => match Ty.eqb u e with
        | true => guardK (decide (0 ≤ i) && decide (i < (n : Int))) (K (.ptr b (p.snoc (.idx i))))
        | false => Option.none
      | _ => Option.none
    | _ => Option.none
  | _, _ => Option.none
def indexK (T : Tab) (tid : Nat) (x i : AV) (K : AV → Option R) : Option R :=
  match i, x with
  | .val (.int _) i, .val .str s => match T.get tid with
    | some (.ty .str) => guardK (decide (0 ≤ i) && decide (i < (s.size : Int))) (K (.val (.int .u8) (bat s i)))
    | _ => Option.none
  | .val (.int _) i, .val u a => match T.get tid with
    | some (.ty (.arr n e)) => match cast? u (.arr n e) a with
      | some a => guardK (decide (0 ≤ i) && decide (i < (n : Int))) (K (.val e (Arr.get a i)))
      | Option.none => Option.none
    | _ => Option.none
  | _, _ => Option.none
def fieldAddrK (T : Tab) (tid : Nat) (m : Mem) (x : AV) (i : Nat) (K : AV → Option R) : Option R :=
  match T.get tid with
  | some (.ty (.st s)) => match nthTy s.body i with
    | some _ => match x with
      | .ptr b p => match (m b).tyAt p with
        | some u => match Ty.eqb u (.st s) with
          | true => K (.ptr b (p.snoc (.fld i)))
          | false => Option.none
        | Option.none => Option.none
      | .eptr u a => match cast? u (.st s) a with
        | some a => match getFld (.st s) a i with
          | some d => K (.eptr d.t d.x)
          | Option.none => Option.none
        | Option.none => Option.none
      | _ => Option.none
    | Option.none => Option.none
  | _ => Option.none
def fieldK (T : Tab) (tid : Nat) (x : AV) (i : Nat) (K : AV → Option R) : Option R :=
  match T.get tid with
  | some (.ty (.st s)) => match x with
    | .val u a => match cast? u (.st s) a with
      | some a => match getFld (.st s) a i with
        | some d => K (.val d.t d.x)
        | Option.none => Option.none
      | Option.none => Option.none
    | .agv s' l => match Nat.beq s.no s'.no && l.has s.body, nthAV l i with
      | true, some v => K v
      | _, _ => Option.none
    | _ => Option.none
  | _ => Option.none
def loadK (T : Tab) (tid : Nat) (m : Mem) (x : AV) (K : AV → Option R) : Option R :=
  match T.get tid, x with
  | some e, .ptr b p => match (m b).load p with
    | some v => match v.hasE e with
      | true => K v
      | false => Option.none
    | Option.none => Option.none
  | some (.ty t), .eptr u a => match cast? u t a with
    | some a => K (.val t a)
    | Option.none => Option.none
  | _, _ => Option.none
def storeK (T : Tab) (tid : Nat) (m : Mem) (x v : AV) (K : Mem → Option R) : Option R :=
  match T.get tid, x with
  | some (.ty t), .ptr b p => match (m b).tyAt p, v.has t with
    | some u, true => match Ty.eqb u t, (m b).store p v with
      | true, some y => K (m.put b y)
      | _, _ => Option.none
    | _, _ => Option.none
  | some (.mp _ _), .ptr b p => match (m b).tyAt p, v with
    | some .bool, .mp c => match (m b).store p (.mp c) with
      | some y => K (m.put b y)
      | Option.none => Option.none
    | _, _ => Option.none
  | some .pt, .ptr b p => match (m b).tyAt p, v with
    | some .bool, .ptr c q => match (m b).store p (.ptr c q) with
      | some y => K (m.put b y)
      | Option.none => Option.none
    | _, _ => Option.none
  | _, _ => Option.none
def sliceK (T : Tab) (tid : Nat) (m : Mem) (x : AV) (lo hi : Option AV) (K : AV → Option R) : Option R :=
  match T.get tid, x, lo, hi with
  | some (.ty (.arr n e)), .ptr b p, Option.none, Option.none => match m b with
    | .var t _ => match Co.tyAt t p with
      | some (u, _) => match Ty.eqb u (.arr n e), Nat.ble (n * e.bytes) top, Nat.ble n 9223372036854775807 with
        | true, true, true => K (.asl b p)
        | _, _, _ => Option.none
      | Option.none => Option.none
    | _ => Option.none
  | some (.ty .str), .val .str s, lo, hi =>
    match (match lo with | Option.none => some (0 : Int) | some (.val (.int _) l) => some l | _ => Option.none), (match hi with | Option.none => some (s.size : Int) | some (.val (.int _) h) => some h | _ => Option.none) with
    | some l, some h => guardK (decide (0 ≤ l) && decide (l ≤ h) && decide (h ≤ (s.size : Int))) (K (.val .str (s.extract l.toNat h.toNat)))
    | _, _ => Option.none
  | some (.ty (.list e)), .val u a, lo, hi => match cast? u (.list e) a with
    | some xs =>
      match (match lo with | Option.none => some (0 : Int) | some (.val (.int _) l) => some l | _ => Option.none), (match hi with | Option.none => some (List.length xs : Int) | some (.val (.int _) h) => some h | _ => Option.none) with
      | some l, some h => guardK (decide (0 ≤ l) && decide (l ≤ h) && decide (h ≤ (List.length xs : Int))) (K (.val (.list e) ((List.take h.toNat xs).drop l.toNat)))
      | _, _ => Option.none
    | Option.none => Option.none
  | some (.ty (.list e)), .sl b, Option.none, Option.none => match m b with
    | .slab u _ => match Ty.eqb u e with
      | true => K (.sl b)
      | false => Option.none
    | _ => Option.none
  | some (.ty (.list e)), .sl b, lo, hi => match m b with
    | .slab u xs => match Ty.eqb u e with
      | true => match (match lo with | Option.none => some (0 : Int) | some (.val (.int _) l) => some l | _ => Option.none), (match hi with | Option.none => some (List.length xs : Int) | some (.val (.int _) h) => some h | _ => Option.none) with
        | some l, some h => guardK (decide (0 ≤ l) && decide (l ≤ h) && decide (h ≤ (List.length xs : Int))) (K (.ssl b l h))
        | _, _ => Option.none
      | false => Option.none
    | _ => Option.none
  | _, _, _, _ => Option.none
def convK (T : Tab) (src dst : Nat) (x : AV) (K : AV → Option R) : Option R :=
  match T.get src, T.get dst, x with
  | some (.ty (.int _)), some (.ty (.int k)), .val (.int _) n => K (.val (.int k) (k.wrap n))
  | some (.ty .str), some (.ty .str), .val .str s => K (.val .str s)
  | _, _, _ => Option.none
/-- A text of bytes. -/
def txtOf (l : List Int) : ByteArray := ⟨(List.map (fun n => UInt8.ofNat n.toNat) l).toArray⟩
/-- Bytes as a text; else numbers to numbers, texts to texts. -/
def convM (T : Tab) (src dst : Nat) (m : Mem) (x : AV) (K : AV → Option R) : Option R :=
  match T.get src, T.get dst with
  | some (.ty (.list (.int .u8))), some (.ty .str) => match toPure m x (.list (.int .u8)) with
    | some l => K (.val .str (txtOf l))
    | Option.none => Option.none
  | _, _ => convK T src dst x K
def lookupK (T : Tab) (tid : Nat) (m : Mem) (x k : AV) (ok : Bool) (K : AV → Option R) : Option R :=
  match T.get tid, x with
  | some (.mp kt vt), .mp b => match m b with
    | .map kt' vt' l => match Ty.eqb kt' kt && Ty.eqb vt' vt && simpleKey kt', k with
      | true, .val u a => match cast? u kt' a with
        | some a => match ok with
          | false => K (.val vt' ((@mget _ _ kt'.decEq l a).getD vt'.zero))
          | true => K (.tup (.cons (.val vt' ((@mget _ _ kt'.decEq l a).getD vt'.zero)) (.cons (.val .bool (@mget _ _ kt'.decEq l a).isSome) .nil)))
        | Option.none => Option.none
      | _, _ => Option.none
    | _ => Option.none
  | _, _ => Option.none
def mapUpdateK (T : Tab) (tid : Nat) (m : Mem) (x k v : AV) (K : Mem → Option R) : Option R :=
  match T.get tid, x with
  | some (.mp kt vt), .mp b => match m b with
    | .map kt' vt' l => match Ty.eqb kt' kt && Ty.eqb vt' vt && simpleKey kt' && !vt'.lists, k, v with
      | true, .val u a, .val w c => match cast? u kt' a, cast? w vt' c with
        | some a, some c => K (m.put b (.map kt' vt' (@mput _ _ kt'.decEq l a c)))
        | _, _ => Option.none
      | _, _, _ => Option.none
    | _ => Option.none
  | _, _ => Option.none

/-- One operation. -/
def opF (E : EE) (ρ : Operand → AV) (o : Op) (m : Mem) (nx : Nat) (K : KO R) : Option R :=
  match o with
  | .move x => K (ρ x) m nx
  | .assign x => K (ρ x) m nx
  | .pick c a b => match ρ c with
    | .val .bool t => bif t then K (ρ a) m nx else K (ρ b) m nx
    | _ => Option.none
  | .load t a => loadK E.T t m (ρ a) fun v => K v m nx
  | .index t x i => indexK E.T t (ρ x) (ρ i) fun v => K v m nx
  | .indexAddr t x i => indexAddrK E.T t m (rz m (ρ x)) (ρ i) fun v => K v m nx
  | .field t x i => fieldK E.T t (ρ x) i fun v => K v m nx
  | .fieldAddr t x i => fieldAddrK E.T t m (ρ x) i fun v => K v m nx
  | .binOp op t x y _ => match E.T.get t with
    | some e => binK op e (ρ x) (ρ y) fun v => K v m nx
    | Option.none => Option.none
  | .unOp op _ x => unK op (ρ x) fun v => K v m nx
  | .convert s d x => convM E.T s d m (ρ x) fun v => K v m nx
  | .nilCheck x => match ρ x with
    | .ptr b p => K (.ptr b p) m nx
    | _ => Option.none
  | .extract x i => match ρ x with
    | .tup l => match nthAV l i with
      | some v => K v m nx
      | Option.none => Option.none
    | _ => Option.none
  | .lookup t x k ok => lookupK E.T t m (ρ x) (ρ k) ok fun v => K v m nx
  | .slice t x lo hi Option.none => sliceK E.T t m (rz m (ρ x)) (lo.map ρ) (hi.map ρ) fun v => K v m nx
  | .makeFunc (.func f) first caps => match first.size with
    | 0 => match capNames (caps.toList.map ρ) with
      | some l => K (.fn f l) m nx
      | Option.none => Option.none
    | _ => Option.none
  | .build t parts => match E.T.get t with
    | some (.ty (.st s)) => match buildSt s (parts.toList.map fun x => (x.1, ρ x.2)) with
      | some v => K v m nx
      | Option.none => Option.none
    | some (.ty (.arr n e)) => match buildArr n e (Vector.replicate n e.zero) (parts.toList.map fun x => (x.1, ρ x.2)) with
      | some a => K (.val (.arr n e) a) m nx
      | Option.none => Option.none
    | _ => Option.none
  | .call c => match c.callee with
    | .builtin b => builtinK E b c.argTypes.toList (c.args.toList.map fun o => rz m (ρ o)) m nx K
    | .value f => match ρ f with
      | .fn f caps => callK E f (catL (c.args.toList.map ρ) (caps.map (capAV m))) m nx K
      | _ => Option.none
    | _ => Option.none
  | .alloc t => match E.T.get t with
    | some (.ty t) => K (.ptr nx []) (m.put nx (.var t (zeroV t))) (nx + 1)
    | some (.mp _ _) => K (.ptr nx []) (m.put nx (.var .bool .nilm)) (nx + 1)
    | some .pt => K (.ptr nx []) (m.put nx (.var .bool .nilp)) (nx + 1)
    | _ => Option.none
  | .box t x => match E.T.get t with
    | some (.ty t) => match (ρ x).has t with
      | true => K (.ptr nx []) (m.put nx (.var t (ρ x))) (nx + 1)
      | false => Option.none
    | some (.mp _ _) => match ρ x with
      | .mp c => K (.ptr nx []) (m.put nx (.var .bool (.mp c))) (nx + 1)
      | _ => Option.none
    | _ => Option.none
  | .store t a x => storeK E.T t m (ρ a) (ρ x) fun m' => K .junk m' nx
  | .makeMap t Option.none => match E.T.get t with
    | some (.mp k v) => K (.mp nx) (m.put nx (.map k v [])) (nx + 1)
    | _ => Option.none
  | .mapUpdate t x k v => mapUpdateK E.T t m (ρ x) (ρ k) (ρ v) fun m' => K .junk m' nx
  | .buildSlice t n parts => match E.T.get t with
    | some (.ty (.list e)) => match Nat.ble (n * e.size) 16777216 && Nat.ble n 16777216, Nat.ble (n * e.bytes) top, buildRow m e (List.replicate n e.zero) (parts.toList.map fun x => (x.1, ρ x.2)) with
      | true, true, some (l, m') => K (.sl nx) (m'.put nx (.slab e l)) (nx + 1)
      | _, _, _ => Option.none
    | _ => Option.none
  | .makeSlice t l c => match E.T.get t, ρ l, ρ c with
    | some (.ty (.list e)), .val (.int _) l, .val (.int _) c => match Nat.ble 1 e.bytes with
      | true => guardK (decide (0 ≤ l) && decide (l ≤ c) && decide (c * (e.bytes : Int) ≤ (top : Int))) (K (.sl nx) (m.put nx (.slab e (List.replicate l.toNat e.zero))) (nx + 1))
      | false => Option.none
    | _, _, _ => Option.none
  | _ => Option.none

def putDst (s : AS) (d : Option Nat) (v : AV) : AS :=
  match d with
  | some d => s.put d v
  | Option.none => s
/-- From here on the test in the slot is known. -/
def know (s : AS) (d : Nat) (b : Bool) : AS := s.put d (.val .bool b)
/-- Has the guard's operation yielded so? -/
def dstOf (ops : List Oper) (j : Nat) : Option Nat :=
  match ops, j with
  | o :: _, 0 => o.dst
  | _ :: r, j + 1 => dstOf r j
  | [], _ => Option.none
def evOps (E : EE) (n : Nat) (all : List Oper) : List Oper → AS → (AS → Option R) → Option R
  | [], s, K => K s
  | o :: r, s, K =>
    match (match o.dst with | some d => Nat.blt d n | Option.none => true) with
    | false => Option.none
    | true => match o.guard with
      | Option.none => opF E (opv s.slots) o.op s.mem s.nx fun v m nx => evOps E n all r (putDst ⟨s.slots, m, nx⟩ o.dst v) K
      | some (j, want) => match dstOf all j with
        | Option.none => Option.none
        | some d => match s.slots d with
          | .val .bool b => match want with
            | true => bif b then opF E (opv (know s d true).slots) o.op s.mem s.nx fun v m nx => evOps E n all r (putDst ⟨(know s d true).slots, m, nx⟩ o.dst v) K
              else evOps E n all r (putDst (know s d false) o.dst .nil) K
            | false => bif b then evOps E n all r (putDst (know s d true) o.dst .nil) K
              else opF E (opv (know s d false).slots) o.op s.mem s.nx fun v m nx => evOps E n all r (putDst ⟨(know s d false).slots, m, nx⟩ o.dst v) K
          | .nil => evOps E n all r (putDst s o.dst .nil) K
          | _ => Option.none

/-! ### Regions whose operations come in any order that their edges allow -/
def tmpsOf (ops : List Operand) : List Nat := match ops with | [] => [] | .tmp t :: r => t :: tmpsOf r | _ :: r => tmpsOf r
def onOf (es : List Edge) : List Nat := match es with | [] => [] | e :: r => match Region.binds .any e with | true => e.on :: onOf r | false => onOf r
def edgesAt (all : List Oper) (j : Nat) : List Nat := match all, j with | o :: _, 0 => onOf o.after.toList | _ :: r, j + 1 => edgesAt r j | [], _ => []
def memB (l : List Nat) (n : Nat) : Bool := match l with | [] => false | a :: r => match Nat.beq n a with | true => true | false => memB r n
theorem memB_nil (n : Nat) : memB [] n = false := rfl
theorem memB_cons (a : Nat) (r : List Nat) (n : Nat) : memB (a :: r) n = (Nat.beq n a || memB r n) := by
  rw [memB]; cases Nat.beq n a <;> rfl
/-- Does i come before j in every order? (a way of so many edges) -/
def befB (all : List Oper) : Nat → Nat → Nat → Bool
  | 0, _, _ => false
  | k + 1, i, j => memB (edgesAt all j) i || (edgesAt all j).any fun e => Nat.blt i e && befB all k i e
/-- Each edge goes back. -/
def backB : Nat → List Oper → Bool
  | _, [] => true
  | j, o :: r => (onOf o.after.toList).all (Nat.blt · j) && backB (j + 1) r

/-- The names in a value. -/
def names : AV → List Nat
  | .ptr b _ => [b]
  | .sl b => [b]
  | .ssl b _ _ => [b]
  | .asl b _ => [b]
  | .mp b => [b]
  | .fn _ caps => caps
  | .tup l => names l
  | .agv _ l => names l
  | .cons a l => catL (names a) (names l)
  | _ => []
def blkNames : AB → List Nat
  | .var _ v => names v
  | _ => []
def closeN (m : Mem) : List Nat → List Nat
  | [] => []
  | b :: r => catL (blkNames (m b)) (closeN m r)
def valNames (ρ : Operand → AV) : List Operand → List Nat
  | [] => []
  | x :: r => catL (names (ρ x)) (valNames ρ r)
/-- An operation's operands. -/
def optL : Option Operand → List Operand
  | some x => [x]
  | Option.none => []
def sndL : List (Nat × Operand) → List Operand
  | [] => []
  | p :: r => p.2 :: sndL r
def opndL : Op → List Operand
  | .call c => match c.callee with | .value f => f :: c.args.toList | _ => c.args.toList
  | .makeFunc _ first caps => catL first.toList caps.toList
  | .slice _ x l h m => x :: catL (optL l) (catL (optL h) (optL m))
  | .makeMap _ r => optL r
  | .build _ ps => sndL ps.toList
  | .buildSlice _ _ ps => sndL ps.toList
  | op => op.operands.toList
/-- The names of blocks that an operation looks at. -/
def footR (ρ : Operand → AV) (m : Mem) (op : Op) : List Nat :=
  match op with
  | .call _ => catL (valNames ρ (opndL op)) (catL (closeN m (valNames ρ (opndL op))) (closeN m (closeN m (valNames ρ (opndL op)))))
  | op => valNames ρ (opndL op)
/-- May it write them? -/
def opWr (E : EE) (ρ : Operand → AV) (op : Op) : Bool :=
  match op with
  | .store _ _ _ => true
  | .mapUpdate _ _ _ _ => true
  | .buildSlice _ _ _ => true
  | .call c => match c.callee with
    | .builtin .append => true
    | .builtin _ => false
    | .value f => match ρ f with
      | .fn f _ => match conOf E.con f with
        | some c => match inL E.fr f with
          | true => false
          | false => c.res.any Ty.lists
        | Option.none => true
      | _ => true
    | _ => true
  | _ => false
/-- What an operation has looked at and written: slots, names. -/
structure FP where
  rs : List Nat
  dst : Option Nat
  R : List Nat
  W : List Nat
def fromTo (a : Nat) : Nat → List Nat
  | 0 => []
  | k + 1 => a :: fromTo (a + 1) k
def only (l : List Nat) (f : Nat → AV) : Nat → AV := fun i => match memB l i with | true => f i | false => .junk
def onlyM (l : List Nat) (m : Mem) : Mem := fun i => match memB l i with | true => m i | false => .none
def over (l : List Nat) (m' m : Mem) : Mem := fun i => match memB l i with | true => m' i | false => m i
def putD (f : Nat → AV) (d : Option Nat) (v : AV) : Nat → AV :=
  match d with
  | some d => fun i => match Nat.beq i d with | true => v | false => f i
  | Option.none => f
/-- An operation, seeing only what it looks at. -/
def opD (E : EE) (rs : List Nat) (o : Oper) (s : AS) (K : AS → FP → Option R) : Option R :=
  let ρ := opv (only rs s.slots)
  let F := footR ρ s.mem o.op
  opF E ρ o.op (onlyM F s.mem) s.nx fun v m nx =>
    let W := catL (fromTo s.nx (nx - s.nx)) (match opWr E ρ o.op with | true => F | false => [])
    K ⟨putD s.slots o.dst v, over W m s.mem, nx⟩ ⟨rs, o.dst, F, W⟩
def evDraw (E : EE) (n : Nat) (all : List Oper) : List Oper → AS → List FP → (AS → List FP → Option R) → Option R
  | [], s, fs, K => K s fs
  | o :: r, s, fs, K =>
    match (match o.dst with | some d => Nat.blt d n | Option.none => true) with
    | false => Option.none
    | true => match o.guard with
      | Option.none => opD E (tmpsOf (opndL o.op)) o s fun s f => evDraw E n all r s (fs.snoc f) K
      | some (j, want) => match dstOf all j with
        | Option.none => Option.none
        | some d => match s.slots d with
          | .val .bool b => match want with
            | true => bif b then opD E (d :: tmpsOf (opndL o.op)) o (know s d true) fun s f => evDraw E n all r s (fs.snoc f) K
              else evDraw E n all r ⟨putD (know s d false).slots o.dst .nil, s.mem, s.nx⟩ (fs.snoc ⟨[d], o.dst, [], []⟩) K
            | false => bif b then evDraw E n all r ⟨putD (know s d true).slots o.dst .nil, s.mem, s.nx⟩ (fs.snoc ⟨[d], o.dst, [], []⟩) K
              else opD E (d :: tmpsOf (opndL o.op)) o (know s d false) fun s f => evDraw E n all r s (fs.snoc f) K
          | .nil => evDraw E n all r ⟨putD s.slots o.dst .nil, s.mem, s.nx⟩ (fs.snoc ⟨[d], o.dst, [], []⟩) K
          | _ => Option.none
def memO (l : List Nat) : Option Nat → Bool
  | some d => memB l d
  | Option.none => false
def eqO : Option Nat → Option Nat → Bool
  | some d, some e => Nat.beq d e
  | _, _ => false
def meets (l r : List Nat) : Bool := l.any (memB r)
/-- Do they come out alike in either order? -/
def apartB (f g : FP) : Bool :=
  !(memO g.rs f.dst || eqO f.dst g.dst || memO f.rs g.dst || meets f.W g.R || meets f.W g.W || meets f.R g.W)
def rowB (all : List Oper) (j : Nat) (g : FP) : Nat → List FP → Bool
  | _, [] => true
  | i, f :: r => (match Nat.blt i j with | true => apartB f g || befB all 6 i j | false => true) && rowB all j g (i + 1) r
def allB (all : List Oper) (fs : List FP) : Nat → List FP → Bool
  | _, [] => true
  | j, g :: r => rowB all j g 0 fs && allB all fs (j + 1) r
def drawFine (all : List Oper) (fs : List FP) : Bool := backB 0 all && allB all fs 0 fs

def knowO (s : AS) (c : Operand) (b : Bool) : AS :=
  match c with
  | .tmp t => know s t b
  | _ => s
def firstReg : Code → Nat
  | .region id _ _ => id
  | .seq a b => match a with | .skip => firstReg b | .label _ => firstReg b | a => firstReg a
  | .block _ b => firstReg b
  | .loop b => firstReg b
  | .scope b => firstReg b
  | _ => 0

def evC (E : EE) (n : Nat) : Code → (R : Type) → AS → (AExit → AS → Option R) → Option R
  | .skip, _, s, K => K .normal s
  | .region _ ops draw, _, s, K => match draw with
    | false => evOps E n ops.toList ops.toList s (K .normal)
    | true => evDraw E n ops.toList ops.toList s [] fun s fs => match drawFine ops.toList fs with
      | true => K .normal s
      | false => Option.none
  | .seq a b, R, s, K => match E.sp (firstReg a) with
    | some h => h R s (K .normal)
    | Option.none => evC E n a R s fun e s' => match e with | .normal => evC E n b R s' K | e => K e s'
  | .cond c x y, R, s, K => match opv s.slots c with
    | .val .bool b => bif b then evC E n x R (knowO s c true) K else evC E n y R (knowO s c false) K
    | _ => Option.none
  | .block id body, R, s, K => evC E n body R s fun e s' => match e with
    | .exit j => match Nat.beq j id with | true => K .normal s' | false => K (.exit j) s'
    | e => K e s'
  | .loop body, R, s, K => E.lp (firstReg body) (evC E n body) R s K
  | .exit id, _, s, K => K (.exit id) s
  | .ret, _, s, K => K .ret s
  | _, _, _, _ => Option.none
end

/-! ### Ends of functions -/
def slotL : List AV → Nat → AV
  | [], _ => .junk
  | v :: _, 0 => v
  | _ :: r, i + 1 => slotL r i
def initS (vs : List AV) (m : Mem) (nx : Nat) : AS := ⟨slotL vs, m, nx⟩
def resOne (T : Tab) (s : AS) : ResultVar → Option AV
  | .tmp t => some (s.slots t)
  | .cell t tid => loadK T tid s.mem (s.slots t) some
def resList (T : Tab) (s : AS) : List ResultVar → Option (List AV)
  | [] => some []
  | r :: l => match resOne T s r, resList T s l with | some v, some vs => some (v :: vs) | _, _ => Option.none
/-- What a function's end answers, as plain data of these kinds. -/
def retK (T : Tab) (rs : List ResultVar) (res : List Ty) (e : AExit) (s : AS) : Option (denL res) :=
  match e with
  | .exit _ => Option.none
  | _ => match resList T s rs with
    | some vs => toPureL s.mem res vs
    | Option.none => Option.none
def argVs : (l : List Ty) → denL l → List AV
  | [], _ => []
  | t :: r, x => .val t x.1 :: argVs r x.2
/-- A function's run at plain data. -/
def evF {R : Type} (E : EE) (fn : Func) (body : Code) (args : List Ty) (x : denL args) (K : AExit → AS → Option R) : Option R :=
  evC E fn.ntmps body R (initS (argVs args x) (fun _ => .none) 0) K


/-! ### Calls that are gone into -/
def solid : AV → Bool
  | .junk => false
  | .tup _ => false
  | .nil => false
  | .cons _ _ => false
  | _ => true
def resPack : List AV → Option AV
  | [v] => some v
  | l => match l.all solid with | true => some (.tup (AV.ofList l)) | false => Option.none
/-- Functions by their numbers: slots, results, code. -/
abbrev Bodies := List (Nat × Nat × List ResultVar × Code)
def bodyOf : Bodies → Nat → Option (Nat × List ResultVar × Code)
  | [], _ => Option.none
  | (i, b) :: r, n => match Nat.beq n i with | true => some b | false => bodyOf r n
end Go.Co
end

section
namespace Go.Co
open Go.RowKit

/-! ### Weights of kinds, and induction over them -/
theorem St.wt_body (s : St) : s.body.wt < s.wt := by cases s <;> decide
theorem Ty.ind {P : Ty → Prop} (int : ∀ k, P (.int k)) (bool : P .bool) (str : P .str) (unit : P .unit) (prod : ∀ a b, P a → P b → P (.prod a b))
    (arr : ∀ n t, P t → P (.arr n t)) (list : ∀ t, P t → P (.list t)) (st : ∀ s : St, P s.body → P (.st s)) : ∀ t, P t := by
  have key : ∀ n t, Ty.wt t ≤ n → P t := by
    intro n
    induction n with
    | zero =>
      intro t h
      cases t with
      | st s => have := St.wt_body s; simp [Ty.wt] at h; omega
      | _ => simp [Ty.wt] at h
    | succ n ih =>
      intro t h
      cases t with
      | int k => exact int k
      | bool => exact bool
      | str => exact str
      | unit => exact unit
      | prod a b => simp [Ty.wt] at h; exact prod a b (ih a (by omega)) (ih b (by omega))
      | arr n t => simp [Ty.wt] at h; exact arr n t (ih t (by omega))
      | list t => simp [Ty.wt] at h; exact list t (ih t (by omega))
      | st s => simp [Ty.wt] at h; exact st s (ih _ (by have := St.wt_body s; omega))
  exact fun t => key _ t (Nat.le_refl _)

/-! ### Lists side by side -/
def All2 {α β : Type} (R : α → β → Prop) : List α → List β → Prop
  | [], [] => True
  | x :: xs, y :: ys => R x y ∧ All2 R xs ys
  | _, _ => False
theorem All2.length {α β : Type} {R : α → β → Prop} : ∀ {xs : List α} {ys : List β}, All2 R xs ys → xs.length = ys.length
  | [], [], _ => rfl
  | _ :: _, _ :: _, h => by simp [All2.length h.2]
theorem All2.mono {α β : Type} {R S : α → β → Prop} (hs : ∀ x y, R x y → S x y) : ∀ {xs : List α} {ys : List β}, All2 R xs ys → All2 S xs ys
  | [], [], _ => trivial
  | _ :: _, _ :: _, h => ⟨hs _ _ h.1, All2.mono hs h.2⟩
theorem All2.get {α β : Type} {R : α → β → Prop} : ∀ {xs : List α} {ys : List β} (_ : All2 R xs ys) (i : Nat) (x : α), xs[i]? = some x → ∃ y, ys[i]? = some y ∧ R x y
  | [], [], _, i, x, h => by simp at h
  | a :: xs, b :: ys, h, 0, x, hx => by simp at hx; subst hx; exact ⟨b, by simp, h.1⟩
  | a :: xs, b :: ys, h, i + 1, x, hx => by
    simp at hx
    obtain ⟨y, hy, hr⟩ := All2.get h.2 i x hx
    exact ⟨y, by simpa using hy, hr⟩
theorem All2.append {α β : Type} {R : α → β → Prop} : ∀ {xs : List α} {ys : List β} {xs' : List α} {ys' : List β}, All2 R xs ys → All2 R xs' ys' → All2 R (xs ++ xs') (ys ++ ys')
  | [], [], _, _, _, h' => h'
  | _ :: _, _ :: _, _, _, h, h' => ⟨h.1, All2.append h.2 h'⟩
theorem All2.set {α β : Type} {R : α → β → Prop} {x : α} {y : β} (h' : R x y) : ∀ {xs : List α} {ys : List β} (i : Nat), All2 R xs ys → All2 R (xs.set i x) (ys.set i y)
  | [], [], _, _ => trivial
  | _ :: _, _ :: _, 0, h => ⟨h', h.2⟩
  | _ :: _, _ :: _, i + 1, h => ⟨h.1, All2.set h' i h.2⟩
theorem All2.take {α β : Type} {R : α → β → Prop} : ∀ {xs : List α} {ys : List β} (i : Nat), All2 R xs ys → All2 R (xs.take i) (ys.take i)
  | _, _, 0, _ => by simp [All2]
  | [], [], i + 1, _ => by simp [All2]
  | _ :: _, _ :: _, i + 1, h => by simp only [List.take_succ_cons]; exact ⟨h.1, All2.take i h.2⟩
theorem All2.drop {α β : Type} {R : α → β → Prop} : ∀ {xs : List α} {ys : List β} (i : Nat), All2 R xs ys → All2 R (xs.drop i) (ys.drop i)
  | _, _, 0, h => by simpa using h
  | [], [], i + 1, _ => by simp [All2]
  | _ :: _, _ :: _, i + 1, h => by simp only [List.drop_succ_cons]; exact All2.drop i h.2
theorem All2.replicate {α β : Type} {R : α → β → Prop} {x : α} {y : β} (h : R x y) : ∀ n, All2 R (List.replicate n x) (List.replicate n y)
  | 0 => trivial
  | n + 1 => ⟨h, All2.replicate h n⟩
/-- Rows of one width, one behind the other. -/
theorem flatten_len {α : Type} {n : Nat} : ∀ {l : List (List α)}, (∀ c ∈ l, c.length = n) → l.flatten.length = l.length * n
  | [], _ => by simp
  | c :: l, h => by
    have := flatten_len (l := l) (fun d hd => h d (by simp [hd]))
    simp [h c (by simp), this, Nat.add_mul]; omega
theorem flatten_take {α : Type} {n : Nat} : ∀ {l : List (List α)} (i : Nat), (∀ c ∈ l, c.length = n) → (l.take i).flatten = l.flatten.take (i * n)
  | [], i, _ => by simp
  | c :: l, 0, _ => by simp
  | c :: l, i + 1, h => by
    have := flatten_take (l := l) i (fun d hd => h d (by simp [hd]))
    have hc := h c (by simp)
    simp only [List.take_succ_cons, List.flatten_cons, this]
    have e1 : c.take ((i + 1) * n) = c := List.take_of_length_le (by rw [hc, Nat.add_mul]; omega)
    rw [List.take_append, e1, hc, show (i + 1) * n - n = i * n by rw [Nat.add_mul]; omega]
theorem flatten_drop {α : Type} {n : Nat} : ∀ {l : List (List α)} (i : Nat), (∀ c ∈ l, c.length = n) → (l.drop i).flatten = l.flatten.drop (i * n)
  | [], i, _ => by simp
  | c :: l, 0, _ => by simp
  | c :: l, i + 1, h => by
    have := flatten_drop (l := l) i (fun d hd => h d (by simp [hd]))
    have hc := h c (by simp)
    simp only [List.drop_succ_cons, List.flatten_cons, this]
    have e1 : c.drop ((i + 1) * n) = [] := List.drop_of_length_le (by rw [hc, Nat.add_mul]; omega)
    rw [List.drop_append, e1, hc, show (i + 1) * n - n = i * n by rw [Nat.add_mul]; omega]
    simp
theorem flatten_at {α : Type} {n : Nat} {l : List (List α)} {i : Nat} {c : List α} (h : ∀ c ∈ l, c.length = n) (hc : l[i]? = some c) :
    l.flatten = l.flatten.take (i * n) ++ c ++ l.flatten.drop (i * n + n) := by
  have hi : i < l.length := (List.getElem?_eq_some_iff.1 hc).1
  have e : l = l.take i ++ [c] ++ l.drop (i + 1) := by
    have := List.getElem?_eq_some_iff.1 hc
    obtain ⟨_, h2⟩ := this
    rw [← h2]; simp
  have h1 := flatten_take i h
  have h2 := flatten_drop (i + 1) h
  rw [Nat.add_mul, Nat.one_mul] at h2
  rw [← h1, ← h2]
  conv => lhs; rw [e]
  simp
theorem flatten_set {α : Type} {n : Nat} {l : List (List α)} {i : Nat} {c : List α} (h : ∀ c ∈ l, c.length = n) (hi : i < l.length) :
    (l.set i c).flatten = l.flatten.take (i * n) ++ c ++ l.flatten.drop (i * n + n) := by
  have h1 := flatten_take i h
  have h2 := flatten_drop (i + 1) h
  rw [Nat.add_mul, Nat.one_mul] at h2
  rw [← h1, ← h2]
  have e : l.set i c = l.take i ++ [c] ++ l.drop (i + 1) := by
    rw [List.set_eq_take_append_cons_drop, if_pos hi]; simp
  rw [e]; simp

/-! ### Plain data as cells -/
/-- A value of the cells. -/
def pk (g : Bool) (cs : List Value) : Value :=
  match g with
  | true => .agg cs.toArray
  | false => cs.headD undef
theorem pk_cells {g : Bool} {cs : List Value} (h : g = false → cs.length = 1 ∧ ∀ c ∈ cs, c.oneCell' = true) : (pk g cs).cells.toList = cs := by
  cases g with
  | true => simp [pk, Value.cells]
  | false =>
    obtain ⟨h1, h2⟩ := h rfl
    match cs, h1 with
    | [c], _ =>
      have := h2 c (by simp)
      cases c <;> simp_all [pk, Value.cells, Value.oneCell']

/-- The cells of plain data: x's, in the world w, where 'im' are the blocks that nobody writes. -/
def Rd (w : World) (im : Nat → Prop) : (t : Ty) → t.den → List Value → Prop
  | .int k, n, cs => cs = [.int k n] ∧ inKind k n = true
  | .bool, b, cs => cs = [.bool b]
  | .str, s, cs => cs = [.string s] ∧ s.size ≤ top
  | .unit, _, cs => cs = []
  | .prod a b, x, cs => ∃ c d, cs = c ++ d ∧ Rd w im a x.1 c ∧ Rd w im b x.2 d
  | .arr n t, x, cs => ∃ css : List (List Value), cs = css.flatten ∧ All2 (fun y c => Rd w im t y c) (Vector.toList x) css
  | .list t, xs, cs => List.length xs * t.bytes ≤ top ∧ ((cs = [.slice none 0 0] ∧ xs = []) ∨
      ∃ a cap css, cs = [.slice (some a) (List.length xs) cap] ∧ (xs ≠ [] → a.spot = none) ∧ List.length xs ≤ cap ∧ cap ≤ maxLen ∧ All2 (fun y c => Rd w im t y c) xs css ∧ (xs ≠ [] → im a.block) ∧
        ∀ j v, css.flatten[j]? = some v → w.cell? ⟨a.block, a.off + j, none⟩ = some v)
  | .st s, x, cs => Rd w im s.body (s.unpack x) cs
termination_by t => t.wt
decreasing_by
  all_goals first
    | (simp only [Ty.wt]; omega)
    | (simp only [Ty.wt]; exact St.wt_body _)

section
variable {w : World} {im : Nat → Prop}
theorem Rd.int {k : IntKind} {n : Int} {cs : List Value} : Rd w im (.int k) n cs ↔ cs = [.int k n] ∧ inKind k n = true := by rw [Rd]
theorem Rd.bool {b : Bool} {cs : List Value} : Rd w im .bool b cs ↔ cs = [.bool b] := by rw [Rd]
theorem Rd.str {s : ByteArray} {cs : List Value} : Rd w im .str s cs ↔ cs = [.string s] ∧ s.size ≤ top := by rw [Rd]
theorem Rd.unit {x : Unit} {cs : List Value} : Rd w im .unit x cs ↔ cs = [] := by rw [Rd]
theorem Rd.prod {a b : Ty} {x : a.den × b.den} {cs : List Value} : Rd w im (.prod a b) x cs ↔ ∃ c d, cs = c ++ d ∧ Rd w im a x.1 c ∧ Rd w im b x.2 d := by rw [Rd]
theorem Rd.arr {n : Nat} {t : Ty} {x : Arr n t.den} {cs : List Value} : Rd w im (.arr n t) x cs ↔ ∃ css : List (List Value), cs = css.flatten ∧ All2 (Rd w im t) (Vector.toList x) css := by
  rw [Rd]
theorem Rd.list {t : Ty} {xs : List t.den} {cs : List Value} : Rd w im (.list t) xs cs ↔ List.length xs * t.bytes ≤ top ∧ ((cs = [.slice none 0 0] ∧ xs = []) ∨
      ∃ a cap css, cs = [.slice (some a) (List.length xs) cap] ∧ (xs ≠ [] → a.spot = none) ∧ List.length xs ≤ cap ∧ cap ≤ maxLen ∧ All2 (Rd w im t) xs css ∧ (xs ≠ [] → im a.block) ∧
        ∀ j v, css.flatten[j]? = some v → w.cell? ⟨a.block, a.off + j, none⟩ = some v) := by
  rw [Rd]
theorem Rd.st {s : St} {x : s.den} {cs : List Value} : Rd w im (.st s) x cs ↔ Rd w im s.body (s.unpack x) cs := by rw [Rd]
end

/-- As many cells as the kind has. -/
theorem Rd.len {w : World} {im : Nat → Prop} : ∀ (t : Ty) (x : t.den) (cs : List Value), Rd w im t x cs → cs.length = t.size := by
  refine Ty.ind ?_ ?_ ?_ ?_ ?_ ?_ ?_ ?_
  · intro k x cs h; rw [Rd.int] at h; simp [h.1, Ty.size]
  · intro x cs h; rw [Rd.bool] at h; simp [h, Ty.size]
  · intro x cs h; rw [Rd.str] at h; simp [h.1, Ty.size]
  · intro x cs h; rw [Rd.unit] at h; simp [h, Ty.size]
  · intro a b iha ihb x cs h; rw [Rd.prod] at h; obtain ⟨c, d, rfl, hc, hd⟩ := h; simp [Ty.size, iha _ _ hc, ihb _ _ hd]
  · intro n t ih x cs h
    rw [Rd.arr] at h; obtain ⟨css, rfl, hall⟩ := h
    have hl := hall.length
    rw [flatten_len (n := t.size)]
    · rw [← hl]; simp [Ty.size]
    · intro c hc
      obtain ⟨i, hi⟩ := List.getElem?_of_mem hc
      have hlt : i < (Vector.toList x).length := by rw [hl]; exact (List.getElem?_eq_some_iff.1 hi).1
      obtain ⟨y, hy, hr⟩ := hall.get i _ (List.getElem?_eq_getElem hlt)
      rw [hi] at hy; cases hy
      exact ih _ _ hr
  · intro t ih x cs h
    rw [Rd.list] at h; obtain ⟨_, h⟩ := h
    rcases h with ⟨rfl, _⟩ | ⟨a, cap, css, rfl, _⟩ <;> simp [Ty.size]
  · intro s ih x cs h
    rw [Rd.st] at h; rw [ih _ _ h, St.size_body]; rfl
theorem All2.lens {w : World} {im : Nat → Prop} {t : Ty} {xs : List t.den} {css : List (List Value)} (h : All2 (Rd w im t) xs css) : ∀ c ∈ css, c.length = t.size := by
  intro c hc
  obtain ⟨i, hi⟩ := List.getElem?_of_mem hc
  have hlt : i < xs.length := by rw [h.length]; exact (List.getElem?_eq_some_iff.1 hi).1
  obtain ⟨y, hy, hr⟩ := h.get i _ (List.getElem?_eq_getElem hlt)
  rw [hi] at hy; cases hy
  exact Rd.len _ _ _ hr
/-- Each cell holds one value. -/
theorem Rd.one {w : World} {im : Nat → Prop} : ∀ (t : Ty) (x : t.den) (cs : List Value), Rd w im t x cs → ∀ c ∈ cs, c.oneCell' = true := by
  refine Ty.ind ?_ ?_ ?_ ?_ ?_ ?_ ?_ ?_
  · intro k x cs h; rw [Rd.int] at h; simp [h.1, Value.oneCell']
  · intro x cs h; rw [Rd.bool] at h; simp [h, Value.oneCell']
  · intro x cs h; rw [Rd.str] at h; simp [h.1, Value.oneCell']
  · intro x cs h; rw [Rd.unit] at h; simp [h]
  · intro a b iha ihb x cs h; rw [Rd.prod] at h; obtain ⟨c, d, rfl, hc, hd⟩ := h
    intro v hv; rcases List.mem_append.1 hv with hv | hv
    · exact iha _ _ hc v hv
    · exact ihb _ _ hd v hv
  · intro n t ih x cs h
    rw [Rd.arr] at h; obtain ⟨css, rfl, hall⟩ := h
    intro v hv
    obtain ⟨c, hc, hv⟩ := List.mem_flatten.1 hv
    obtain ⟨i, hi⟩ := List.getElem?_of_mem hc
    have hlt : i < (Vector.toList x).length := by rw [hall.length]; exact (List.getElem?_eq_some_iff.1 hi).1
    obtain ⟨y, hy, hr⟩ := hall.get i _ (List.getElem?_eq_getElem hlt)
    rw [hi] at hy; cases hy
    exact ih _ _ hr v hv
  · intro t ih x cs h
    rw [Rd.list] at h; obtain ⟨_, h⟩ := h
    rcases h with ⟨rfl, _⟩ | ⟨a, cap, css, rfl, _⟩ <;> simp [Value.oneCell']
  · intro s ih x cs h
    rw [Rd.st] at h; exact ih _ _ h
/-- What is read stays so while the blocks that nobody writes stay. -/
theorem Rd.mono {w w' : World} {im im' : Nat → Prop} (hm : ∀ k, im k → im' k ∧ w'.heap[k]? = w.heap[k]?) : ∀ (t : Ty) (x : t.den) (cs : List Value), Rd w im t x cs → Rd w' im' t x cs := by
  refine Ty.ind ?_ ?_ ?_ ?_ ?_ ?_ ?_ ?_
  · intro k x cs h; rw [Rd.int] at *; exact h
  · intro x cs h; rw [Rd.bool] at *; exact h
  · intro x cs h; rw [Rd.str] at *; exact h
  · intro x cs h; rw [Rd.unit] at *; exact h
  · intro a b iha ihb x cs h; rw [Rd.prod] at *; obtain ⟨c, d, e, hc, hd⟩ := h; exact ⟨c, d, e, iha _ _ hc, ihb _ _ hd⟩
  · intro n t ih x cs h
    rw [Rd.arr] at *; obtain ⟨css, e, hall⟩ := h
    exact ⟨css, e, hall.mono fun y c => ih y c⟩
  · intro t ih xs cs h
    rw [Rd.list] at *; obtain ⟨hb, h⟩ := h
    refine ⟨hb, ?_⟩
    rcases h with h | ⟨a, cap, css, e, hs, hl, hc, hall, hi, hcell⟩
    · exact .inl h
    · refine .inr ⟨a, cap, css, e, hs, hl, hc, hall.mono fun y c => ih y c, fun hne => (hm _ (hi hne)).1, fun j v hv => ?_⟩
      have hne : xs ≠ [] := by
        rintro rfl
        have := hall.length
        have : css = [] := List.length_eq_zero_iff.1 (by simpa using this.symm)
        subst this; simp at hv
      have := hcell j v hv
      have hh := (hm _ (hi hne)).2
      unfold World.cell? at *
      simp only [hh]; exact this
  · intro s ih x cs h
    rw [Rd.st] at *; exact ih _ _ h

theorem Rd.single {w : World} {im : Nat → Prop} {t : Ty} {x : t.den} {cs : List Value} (h : Rd w im t x cs) (hg : t.agg = false) : ∃ c, cs = [c] := by
  cases t <;> simp [Ty.agg] at hg
  · rw [Rd.int] at h; exact ⟨_, h.1⟩
  · rw [Rd.bool] at h; exact ⟨_, h⟩
  · rw [Rd.str] at h; exact ⟨_, h.1⟩
  · rw [Rd.list] at h
    obtain ⟨_, h⟩ := h
    rcases h with ⟨rfl, _⟩ | ⟨a, cap, css, rfl, _⟩ <;> exact ⟨_, rfl⟩
theorem Rd.cells {w : World} {im : Nat → Prop} {t : Ty} {x : t.den} {cs : List Value} (h : Rd w im t x cs) : (pk t.agg cs).cells.toList = cs :=
  pk_cells fun hg => by
    obtain ⟨c, rfl⟩ := h.single hg
    exact ⟨rfl, Rd.one _ _ _ h⟩

/-! ### Where names lie; slots -/
inductive BT where
  | var (base : Nat) (t : Ty)
  | slab (base : Nat) (t : Ty) (cap len : Nat)
  | nilslab (t : Ty)
  | map (base : Nat) (k v : Ty)
def BT.base : BT → Option Nat
  | .var b _ => some b
  | .slab b _ _ _ => some b
  | .nilslab _ => none
  | .map b _ _ => some b

def BT.elt : BT → Option Ty
  | .slab _ t _ _ => some t
  | .nilslab t => some t
  | _ => none

structure Env where
  ρ : Nat → Option BT
  w : World
  imm : Nat → Prop

/-- The part of a block to which a way leads: its kind and cell. -/
def partAt : BT → List PS → Ty → Nat → Prop
  | .var _ t, p, u, o => tyAt t p = some (u, o) ∧ inRange t p
  | .slab _ t _ len, .idx i :: p, u, o => ∃ q, tyAt t p = some (u, q) ∧ o = i.toNat * t.size + q ∧ 0 ≤ i ∧ i < len ∧ inRange t p
  | _, _, _, _ => False

def capsRel (ρ : Nat → Option BT) : List Nat → List Value → Prop
  | [], [] => True
  | b :: l, v :: vs => ((∃ base t, ρ b = some (.var base t) ∧ v = .pointer (some ⟨base, 0, none⟩)) ∨ ∃ base x y, ρ b = some (.map base x y) ∧ v = .map (some base)) ∧ capsRel ρ l vs
  | _, _ => False

def AV.isAgg : AV → Bool
  | .val t _ => t.agg
  | .agv _ _ => true
  | _ => false

/-- The cells of a value. -/
def RC (E : Env) : AV → List Value → Prop
  | .val t x, cs => Rd E.w E.imm t x cs
  | .nils, cs => cs = [.slice none 0 0]
  | .eptr t x, cs => ∃ a c, cs = [.pointer (some a)] ∧ a.spot = none ∧ E.imm a.block ∧ Rd E.w E.imm t x c ∧ ∀ j v, c[j]? = some v → E.w.cell? ⟨a.block, a.off + j, none⟩ = some v
  | .ptr b p, cs => ∃ bt k u o, E.ρ b = some bt ∧ bt.base = some k ∧ partAt bt p u o ∧ cs = [.pointer (some ⟨k, o, none⟩)]
  | .sl b, cs => (∃ t, E.ρ b = some (.nilslab t) ∧ cs = [.slice none 0 0]) ∨ ∃ k t cap len, E.ρ b = some (.slab k t cap len) ∧ cs = [.slice (some ⟨k, 0, none⟩) len cap]
  | .ssl b lo hi, cs => 0 ≤ lo ∧ lo ≤ hi ∧ ((∃ t, E.ρ b = some (.nilslab t) ∧ hi = 0 ∧ cs = [.slice none 0 0]) ∨
      ∃ (k : Nat) (t : Ty) (cap len : Nat) (a : Addr) (c : Nat), E.ρ b = some (.slab k t cap len) ∧ hi ≤ (len : Int) ∧ hi - lo ≤ (c : Int) ∧ c ≤ maxLen ∧ cs = [.slice (some a) (hi - lo).toNat c] ∧ (lo < hi → a = ⟨k, lo.toNat * t.size, none⟩))
  | .asl b p, cs => ∃ k t n u o, E.ρ b = some (.var k t) ∧ tyAt t p = some (.arr n u, o) ∧ inRange t p ∧ n * u.bytes ≤ top ∧ n ≤ maxLen ∧ cs = [.slice (some ⟨k, o, none⟩) n n]
  | .mp b, cs => ∃ k x y, E.ρ b = some (.map k x y) ∧ cs = [.map (some k)]
  | .fn f caps, cs => ∃ vs, capsRel E.ρ caps vs ∧ cs = [.func (.func f) #[] vs.toArray]
  | .nilp, cs => cs = [.pointer none]
  | .nilm, cs => cs = [.map none]
  | .agv _ l, cs => RC E l cs
  | .nil, cs => cs = []
  | .cons a l, cs => ∃ c d, cs = c ++ d ∧ RC E a c ∧ RC E l d
  | .junk, _ => False
  | .tup _, _ => False
/-- A list of values, each by itself. -/
def RVs (E : Env) : AV → List Value → Prop
  | .nil, vs => vs = []
  | .cons a l, vs => ∃ cs r, vs = pk a.isAgg cs :: r ∧ RC E a cs ∧ RVs E l r
  | _, _ => False
/-- What stands in a slot. -/
def RV (E : Env) : AV → Value → Prop
  | .junk, _ => True
  | .tup l, v => ∃ vs, v = .tuple vs.toArray ∧ RVs E l vs
  | a, v => ∃ cs, v = pk a.isAgg cs ∧ RC E a cs

/-! ### Memory -/
/-- An entry of a map: its key, its value. -/
def RE (E : Env) (k v : Ty) (e : k.den × v.den) (m : MapEntry) : Prop :=
  (∃ c, m.key = pk k.agg c ∧ Rd E.w E.imm k e.1 c) ∧ ∃ c, m.val = pk v.agg c ∧ Rd E.w E.imm v e.2 c
def RM (E : Env) (b : Nat) : AB → Prop
  | .none => True
  | .dead => True
  | .frz t xs => ∃ bt cs, E.ρ b = some bt ∧ bt.elt = some t ∧ RC E (.sl b) cs ∧ Rd E.w E.imm (.list t) xs cs
  | .var t v => v.has t = true ∧ ∃ k cs el, E.ρ b = some (.var k t) ∧ E.w.heap[k]? = some (.cells cs el (0, 0)) ∧ RC E v cs.toList
  | .slab t xs => List.length xs * t.bytes ≤ top ∧ ((E.ρ b = some (.nilslab t) ∧ xs = []) ∨
      ∃ k cap cs el css rest, E.ρ b = some (.slab k t cap (List.length xs)) ∧ E.w.heap[k]? = some (.cells cs el (0, 0)) ∧ cs.size = cap * t.size ∧ List.length xs ≤ cap ∧ cap ≤ maxLen ∧
        All2 (Rd E.w E.imm t) xs css ∧ cs.toList = css.flatten ++ rest)
  | .map k v m => ∃ base es clock, E.ρ b = some (.map base k v) ∧ E.w.heap[base]? = some (.map es clock) ∧ All2 (RE E k v) m es.toList ∧ (∀ e ∈ es, e.born < clock) ∧ (es.toList.map (·.born)).Nodup
def live : AB → Prop
  | .none => False
  | .dead => False
  | .frz _ _ => False
  | _ => True
/-- Block k is one of the variables'. -/
def owns (E : Env) (m : Mem) (k : Nat) : Prop := ∃ b bt, live (m b) ∧ E.ρ b = some bt ∧ bt.base = some k

/-- Nothing of old has turned below n; no block is frozen there that wasn't. -/
structure Blw (n : Nat) (w w' : World) : Prop extends Below n w w' where
  fz : ∀ a : Addr, a.block < n → w'.frozen? a = w.frozen? a
theorem Blw.of {n : Nat} {w w' : World} (h : Below n w w') : Blw n w w' := ⟨h, fun _ ha => h.frozen ha⟩
theorem Blw.refl (n : Nat) (w : World) : Blw n w w := .of (Below.refl n w)
theorem Blw.trans {n : Nat} {a b c : World} (h : Blw n a b) (k : Blw n b c) : Blw n a c := .of (h.toBelow.trans k.toBelow)
theorem Blw.mono {n m : Nat} {w w' : World} (h : Blw n w w') (hm : m ≤ n) : Blw m w w' := .of (h.toBelow.mono hm)
/-- The table by which the library finds a word's lowest bit. -/
def tab64 : List Nat := [0, 1, 56, 2, 57, 49, 28, 3, 61, 58, 42, 50, 38, 29, 17, 4, 62, 47, 59, 36, 45, 43, 51, 22, 53, 39, 33, 30, 24, 18, 12, 5, 63, 55, 48, 27, 60, 41, 37, 16, 46, 35, 44, 21, 52, 32, 23, 11, 54, 26, 40, 15, 34, 20, 31, 10, 25, 14, 19, 9, 13, 8, 7, 6]
/-- The library's table lies in memory, if the program has it. -/
def GOK (P : Program) (w : World) : Prop := ∀ g gl, P.globals[g]? = some gl → gl.name = "math/bits.deBruijn64tab" → ∀ (j v : Nat), tab64[j]? = some v → w.cell? ⟨g, j, none⟩ = some (.int .u8 (v : Int))
theorem GOK.blw {P : Program} {n : Nat} {w w' : World} (h : GOK P w) (hb : Blw n w w') (hn : w.heap.size ≤ n) : GOK P w' := fun g gl h1 h2 j v h3 => by
  have hc := h g gl h1 h2 j v h3
  have hlt : g < w.heap.size := by
    unfold World.cell? at hc
    split at hc
    · rename_i he; exact (Array.getElem?_eq_some_iff.1 he).1
    · cases hc
  exact (hb.cell (p := ⟨g, j, none⟩) (show g < n by omega)).trans hc
theorem GOK.none {P : Program} (h : (P.globals.all fun g => !(g.name == "math/bits.deBruijn64tab" : Bool)) = true) (w : World) : GOK P w := fun g gl h1 h2 => by
  have := Array.all_eq_true'.1 h gl (Array.mem_of_getElem? h1)
  rw [h2] at this
  simp at this
/-- The call's frame of reference: the world at its beginning, and those of its blocks that nobody writes. -/
structure Ctx where
  P : Program
  w0 : World
  I : Nat → Prop
  glob : GOK P w0
/-- Memory fits; U: the names that may have been given. -/
structure MR (C : Ctx) (E : Env) (m : Mem) (U : Nat → Prop) : Prop where
  below : Blw C.w0.heap.size C.w0 E.w
  blocks : ∀ b, RM E b (m b)
  own : ∀ k, owns E m k → k < E.w.heap.size ∧ C.w0.heap.size ≤ k ∧ ¬ E.imm k
  inj : ∀ b b' bt bt' k, live (m b) → live (m b') → E.ρ b = some bt → E.ρ b' = some bt' → bt.base = some k → bt'.base = some k → b = b'
  immLt : ∀ k, E.imm k → k < E.w.heap.size
  immI : ∀ k, E.imm k → k < C.w0.heap.size → C.I k
  nx : ∀ b bt, E.ρ b = some bt → U b

/-- What goes on holding. -/
structure Ext (E E' : Env) : Prop where
  ρ : ∀ b bt, E.ρ b = some bt → E'.ρ b = some bt
  imm : ∀ k, E.imm k → E'.imm k ∧ E'.w.heap[k]? = E.w.heap[k]?
theorem Ext.refl (E : Env) : Ext E E := ⟨fun _ _ h => h, fun _ h => ⟨h, rfl⟩⟩
theorem Ext.trans {E F G : Env} (h : Ext E F) (h' : Ext F G) : Ext E G :=
  ⟨fun b bt hb => h'.ρ b bt (h.ρ b bt hb), fun k hk => ⟨(h'.imm k (h.imm k hk).1).1, ((h'.imm k (h.imm k hk).1).2).trans (h.imm k hk).2⟩⟩
theorem capsRel.mono {ρ ρ' : Nat → Option BT} (h : ∀ b bt, ρ b = some bt → ρ' b = some bt) : ∀ {l : List Nat} {vs : List Value}, capsRel ρ l vs → capsRel ρ' l vs
  | [], [], _ => trivial
  | _ :: _, _ :: _, ⟨.inl ⟨k, t, h1, h2⟩, h3⟩ => ⟨.inl ⟨k, t, h _ _ h1, h2⟩, capsRel.mono h h3⟩
  | _ :: _, _ :: _, ⟨.inr ⟨k, x, y, h1, h2⟩, h3⟩ => ⟨.inr ⟨k, x, y, h _ _ h1, h2⟩, capsRel.mono h h3⟩
theorem Rd.ext {E E' : Env} (h : Ext E E') {t : Ty} {x : t.den} {cs : List Value} (hr : Rd E.w E.imm t x cs) : Rd E'.w E'.imm t x cs := Rd.mono h.imm t x cs hr
theorem cell_of_heap {w w' : World} {b o : Nat} {v : Value} (h : w'.heap[b]? = w.heap[b]?) (hc : w.cell? ⟨b, o, none⟩ = some v) : w'.cell? ⟨b, o, none⟩ = some v := by
  unfold World.cell? at *; simp only [h]; exact hc
theorem RC.ext {E E' : Env} (h : Ext E E') : ∀ {v : AV} {cs : List Value}, RC E v cs → RC E' v cs := by
  intro v
  induction v with
  | junk => intro cs h; exact h.elim
  | val t x => intro cs hr; exact Rd.ext h hr
  | nils => intro cs hr; exact hr
  | eptr t x =>
    rintro cs ⟨a, c, e, hs, hi, hr, hc⟩
    exact ⟨a, c, e, hs, (h.imm _ hi).1, Rd.ext h hr, fun j v hv => cell_of_heap (h.imm _ hi).2 (hc j v hv)⟩
  | ptr b p => rintro cs ⟨bt, k, u, o, hb, hr⟩; exact ⟨bt, k, u, o, h.ρ _ _ hb, hr⟩
  | sl b =>
    rintro cs (⟨t, hb, e⟩ | ⟨k, t, cap, len, hb, e⟩)
    · exact .inl ⟨t, h.ρ _ _ hb, e⟩
    · exact .inr ⟨k, t, cap, len, h.ρ _ _ hb, e⟩
  | ssl b lo hi =>
    rintro cs ⟨h1, h2, ⟨t, hb, e⟩ | ⟨k, t, cap, len, a, c, hb, e⟩⟩
    · exact ⟨h1, h2, .inl ⟨t, h.ρ _ _ hb, e⟩⟩
    · exact ⟨h1, h2, .inr ⟨k, t, cap, len, a, c, h.ρ _ _ hb, e⟩⟩
  | asl b p => rintro cs ⟨k, t, n, u, o, hb, hr⟩; exact ⟨k, t, n, u, o, h.ρ _ _ hb, hr⟩
  | mp b => rintro cs ⟨k, x, y, hb, e⟩; exact ⟨k, x, y, h.ρ _ _ hb, e⟩
  | fn f caps => rintro cs ⟨vs, hv, e⟩; exact ⟨vs, hv.mono h.ρ, e⟩
  | nilp => intro cs hr; exact hr
  | nilm => intro cs hr; exact hr
  | tup l _ => intro cs hr; exact hr.elim
  | agv s l ih => intro cs hr; exact ih (cs := cs) hr
  | nil => intro cs hr; exact hr
  | cons a l iha ihl => rintro cs ⟨c, d, e, h1, h2⟩; exact ⟨c, d, e, iha h1, ihl h2⟩
theorem RVs.ext {E E' : Env} (h : Ext E E') : ∀ {v : AV} {vs : List Value}, RVs E v vs → RVs E' v vs := by
  intro v
  induction v with
  | nil => intro vs hr; exact hr
  | cons a l _ ihl => rintro vs ⟨cs, r, e, h1, h2⟩; exact ⟨cs, r, e, h1.ext h, ihl h2⟩
  | _ => intro vs hr; exact hr.elim
theorem RV.ext {E E' : Env} (h : Ext E E') {v : AV} {x : Value} (hr : RV E v x) : RV E' v x := by
  cases v with
  | junk => trivial
  | tup l => obtain ⟨vs, e, hv⟩ := hr; exact ⟨vs, e, hv.ext h⟩
  | _ => obtain ⟨cs, e, hc⟩ := hr; exact ⟨cs, e, hc.ext h⟩

/-! ### Values of kinds -/
/-- A value of a kind has as many cells. -/
theorem has_cells {E : Env} : ∀ {v : AV} {t : Ty} {cs : List Value}, v.has t = true → RC E v cs → cs.length = t.size := by
  intro v
  induction v with
  | junk => intro t cs _ h; exact h.elim
  | val u x => intro t cs h hr; simp only [AV.has] at h; rw [← Ty.eq_of_eqb h]; exact Rd.len _ _ _ hr
  | nils => intro t cs h hr; cases t <;> simp [AV.has, isList] at h; simp [RC] at hr; simp [hr, Ty.size]
  | sl b => intro t cs h hr; cases t <;> simp [AV.has, isList] at h; rcases hr with ⟨_, _, rfl⟩ | ⟨_, _, _, _, _, rfl⟩ <;> simp [Ty.size]
  | ssl b lo hi => intro t cs h hr; cases t <;> simp [AV.has, isList] at h; obtain ⟨_, _, ⟨_, _, _, rfl⟩ | ⟨_, _, _, _, _, _, _, _, _, _, rfl, _⟩⟩ := hr <;> simp [Ty.size]
  | asl b p => intro t cs h hr; cases t <;> simp [AV.has, isList] at h; obtain ⟨_, _, _, _, _, _, _, _, _, _, rfl⟩ := hr; simp [Ty.size]
  | agv s l ih =>
    intro t cs h hr
    cases t <;> simp [AV.has] at h
    rw [St.no_inj h.1] at h
    rw [ih h.2 hr, St.size_body]; rfl
  | nil => intro t cs h hr; cases t <;> simp [AV.has] at h; simp [RC] at hr; simp [hr, Ty.size]
  | cons a l iha ihl =>
    intro t cs h hr
    cases t <;> simp [AV.has] at h
    obtain ⟨c, d, rfl, h1, h2⟩ := hr
    simp [Ty.size, iha h.1 h1, ihl h.2 h2]
  | nilm => intro t cs h hr; cases t <;> simp [AV.has] at h; simp [RC] at hr; simp [hr, Ty.size]
  | nilp => intro t cs h hr; cases t <;> simp [AV.has] at h; simp [RC] at hr; simp [hr, Ty.size]
  | ptr b p => intro t cs h hr; cases t <;> simp [AV.has] at h; obtain ⟨_, _, _, _, _, _, _, rfl⟩ := hr; simp [Ty.size]
  | mp b => intro t cs h hr; cases t <;> simp [AV.has] at h; obtain ⟨_, _, _, _, rfl⟩ := hr; simp [Ty.size]
  | _ => intro t cs h; cases t <;> simp [AV.has] at h
theorem has_agg {v : AV} {t : Ty} (h : v.has t = true) (hn : ∀ a b, t ≠ .prod a b) (hu : t ≠ .unit) : v.isAgg = t.agg := by
  cases v with
  | val u x => simp only [AV.has] at h; rw [← Ty.eq_of_eqb h]; rfl
  | agv s l => cases t <;> simp [AV.has] at h; rfl
  | cons a l => cases t <;> simp [AV.has] at h; exact absurd rfl (hn _ _)
  | nil => cases t <;> simp [AV.has] at h; exact absurd rfl hu
  | _ => cases t <;> simp_all [AV.has, isList, AV.isAgg, Ty.agg]
theorem RC.one {E : Env} : ∀ {v : AV} {cs : List Value}, RC E v cs → ∀ c ∈ cs, c.oneCell' = true := by
  intro v
  induction v with
  | junk => intro cs h; exact h.elim
  | tup l _ => intro cs h; exact h.elim
  | val u x => intro cs hr; exact Rd.one _ _ _ hr
  | agv s l ih => intro cs hr; exact ih (cs := cs) hr
  | nil => intro cs hr; simp [RC] at hr; simp [hr]
  | cons a l iha ihl =>
    rintro cs ⟨c, d, rfl, h1, h2⟩ v hv
    rcases List.mem_append.1 hv with hv | hv
    · exact iha h1 v hv
    · exact ihl h2 v hv
  | nils => intro cs hr; simp [RC] at hr; simp [hr, Value.oneCell']
  | nilp => intro cs hr; simp [RC] at hr; simp [hr, Value.oneCell']
  | nilm => intro cs hr; simp [RC] at hr; simp [hr, Value.oneCell']
  | sl b => intro cs hr; rcases hr with ⟨_, _, rfl⟩ | ⟨_, _, _, _, _, rfl⟩ <;> simp [Value.oneCell']
  | ssl b lo hi => intro cs hr; obtain ⟨_, _, ⟨_, _, _, rfl⟩ | ⟨_, _, _, _, _, _, _, _, _, _, rfl, _⟩⟩ := hr <;> simp [Value.oneCell']
  | asl b p => intro cs hr; obtain ⟨_, _, _, _, _, _, _, _, _, _, rfl⟩ := hr; simp [Value.oneCell']
  | eptr t x => intro cs hr; obtain ⟨_, _, rfl, _⟩ := hr; simp [Value.oneCell']
  | ptr b p => intro cs hr; obtain ⟨_, _, _, _, _, _, _, rfl⟩ := hr; simp [Value.oneCell']
  | mp b => intro cs hr; obtain ⟨_, _, _, _, rfl⟩ := hr; simp [Value.oneCell']
  | fn f caps => intro cs hr; obtain ⟨_, _, rfl⟩ := hr; simp [Value.oneCell']
theorem RC.single {E : Env} {v : AV} {cs : List Value} (h : RC E v cs) (hg : v.isAgg = false) (hn : v ≠ .nil) (hc : ∀ a l, v ≠ .cons a l) : ∃ c, cs = [c] := by
  cases v with
  | junk => exact h.elim
  | tup l => exact h.elim
  | val u x => exact Rd.single h hg
  | agv s l => simp [AV.isAgg] at hg
  | nil => exact absurd rfl hn
  | cons a l => exact absurd rfl (hc _ _)
  | nils => simp [RC] at h; exact ⟨_, h⟩
  | nilp => simp [RC] at h; exact ⟨_, h⟩
  | nilm => simp [RC] at h; exact ⟨_, h⟩
  | sl b => rcases h with ⟨_, _, rfl⟩ | ⟨_, _, _, _, _, rfl⟩ <;> exact ⟨_, rfl⟩
  | ssl b lo hi => obtain ⟨_, _, ⟨_, _, _, rfl⟩ | ⟨_, _, _, _, _, _, _, _, _, _, rfl, _⟩⟩ := h <;> exact ⟨_, rfl⟩
  | asl b p => obtain ⟨_, _, _, _, _, _, _, _, _, _, rfl⟩ := h; exact ⟨_, rfl⟩
  | eptr t x => obtain ⟨_, _, rfl, _⟩ := h; exact ⟨_, rfl⟩
  | ptr b p => obtain ⟨_, _, _, _, _, _, _, rfl⟩ := h; exact ⟨_, rfl⟩
  | mp b => obtain ⟨_, _, _, _, rfl⟩ := h; exact ⟨_, rfl⟩
  | fn f caps => obtain ⟨_, _, rfl⟩ := h; exact ⟨_, rfl⟩
theorem RC.cells {E : Env} {v : AV} {cs : List Value} (h : RC E v cs) (hn : v ≠ .nil) (hc : ∀ a l, v ≠ .cons a l) : (pk v.isAgg cs).cells.toList = cs :=
  pk_cells fun hg => by
    obtain ⟨c, rfl⟩ := h.single hg hn hc
    exact ⟨rfl, h.one⟩
end Go.Co
end

section
namespace Go.Co
open Go.RowKit

/-! ### Zero cells -/
def zcF (r : St → List Value) : Ty → List Value
  | .int k => [.int k 0]
  | .bool => [.bool false]
  | .str => [.string ByteArray.empty]
  | .unit => []
  | .prod a b => zcF r a ++ zcF r b
  | .arr n t => (List.replicate n (zcF r t)).flatten
  | .list _ => [.slice none 0 0]
  | .st s => r s
def zcN : Nat → St → List Value
  | 0, _ => []
  | n + 1, s => zcF (zcN n) s.body
def zcells (t : Ty) : List Value := zcF (zcN 6) t
theorem zcN_body (s : St) : zcN 6 s = zcells s.body := by cases s <;> rfl
theorem St.unpack_zero (s : St) : s.unpack s.zero = s.body.zero := by cases s <;> rfl
theorem Rd.zero (w : World) (im : Nat → Prop) : ∀ t : Ty, Rd w im t t.zero (zcells t) := by
  refine Ty.ind ?_ ?_ ?_ ?_ ?_ ?_ ?_ ?_
  · intro k; rw [Rd.int]; exact ⟨rfl, by cases k <;> rfl⟩
  · rw [Rd.bool]; rfl
  · rw [Rd.str]; exact ⟨rfl, by decide⟩
  · rw [Rd.unit]; rfl
  · intro a b ha hb; rw [Rd.prod]; exact ⟨_, _, rfl, ha, hb⟩
  · intro n t h; rw [Rd.arr]
    refine ⟨List.replicate n (zcells t), rfl, ?_⟩
    have e : Vector.toList (Ty.zero (.arr n t)) = List.replicate n t.zero := by simp [Ty.zero]
    rw [e]
    exact All2.replicate h n
  · intro t _; rw [Rd.list]; exact ⟨by simp [Ty.zero], .inl ⟨rfl, rfl⟩⟩
  · intro s h
    have e0 : (Ty.st s).zero = s.zero := rfl
    rw [Rd.st, e0, St.unpack_zero]
    have : zcells (.st s) = zcells s.body := zcN_body s
    rw [this]; exact h

/-! ### The table of types -/
def fldsOK (T : Tab) : List Field → Nat → Ty → Prop
  | [], _, .unit => True
  | f :: fs, o, .prod a b => f.offset = o ∧ T.get f.type = some (.ty a) ∧ f.name ≠ "_" ∧ a.size ≠ 0 ∧ fldsOK T fs (o + a.size) b
  | _, _, _ => False
def descOK (P : Program) (T : Tab) (id : Nat) : Ty → Prop
  | .int k => P.underlying id = some (.int k)
  | .bool => P.underlying id = some .bool
  | .str => P.underlying id = some .string
  | .arr n u => ∃ e, P.underlying id = some (.array n e) ∧ T.get e = some (.ty u)
  | .list u => ∃ e, P.underlying id = some (.slice e) ∧ T.get e = some (.ty u)
  | .st s => ∃ fs, P.underlying id = some (.struct fs) ∧ fldsOK T fs.toList 0 s.body ∧ P.stoodInHeld id = false
  | _ => False
def Fits (P : Program) (T : Tab) (id : Nat) : TE → Prop
  | .ty t => descOK P T id t ∧ (∃ i, P.info? id = some i ∧ i.size = t.size ∧ i.bytes = t.bytes ∧ i.zero = some (pk t.agg (zcells t))) ∧ P.eqGuardType P.depth id = false
  | .mp k v => (∃ kid vid, P.underlying id = some (.map kid vid) ∧ T.get kid = some (.ty k) ∧ T.get vid = some (.ty v)) ∧ ∃ i, P.info? id = some i ∧ i.size = 1 ∧ i.zero = some (.map none)
  | .one => (∃ d, P.underlying id = some d ∧ (∀ fs, d ≠ .struct fs) ∧ ∀ n e, d ≠ .array n e) ∧ ∃ i, P.info? id = some i ∧ i.size = 1
  | .pt => (∃ d, P.underlying id = some d ∧ (∀ fs, d ≠ .struct fs) ∧ ∀ n e, d ≠ .array n e) ∧ ∃ i, P.info? id = some i ∧ i.size = 1 ∧ i.zero = some (.pointer none)
def TabOK (P : Program) (T : Tab) : Prop := ∀ id e, T.get id = some e → Fits P T id e

/-- Zero cells alike. -/
def cellB : Value → Value → Bool
  | .int k n, .int l m => IntKind.eqb k l && decide (n = m)
  | .bool a, .bool b => a == b
  | .string s, .string t => s.data.toList.isEmpty && t.data.toList.isEmpty
  | .slice none 0 0, .slice none 0 0 => true
  | _, _ => false
def cellsB : List Value → List Value → Bool
  | [], [] => true
  | a :: l, b :: m => cellB a b && cellsB l m
  | _, _ => false
theorem cellB_eq : ∀ {a b : Value}, cellB a b = true → a = b := by
  intro a b h
  unfold cellB at h
  split at h
  · simp at h; rw [IntKind.eq_of_eqb h.1, h.2]
  · simp at h; rw [h]
  · rename_i s t
    simp at h
    have hs : s = t := by
      cases s with | mk sd => cases t with | mk td => simp at h; rw [h.1, h.2]
    rw [hs]
  · rfl
  · cases h
theorem cellsB_eq : ∀ {a b : List Value}, cellsB a b = true → a = b
  | [], [], _ => rfl
  | a :: l, b :: m, h => by simp [cellsB] at h; rw [cellB_eq h.1, cellsB_eq h.2]
def zeroB (t : Ty) : Option Value → Bool
  | some (.agg cs) => t.agg && cellsB cs.toList (zcells t)
  | some v => !t.agg && cellsB [v] (zcells t)
  | none => false
theorem zeroB_eq {t : Ty} {o : Option Value} (h : zeroB t o = true) : o = some (pk t.agg (zcells t)) := by
  unfold zeroB at h
  split at h
  · rename_i cs
    simp at h
    rw [h.1, ← cellsB_eq h.2]; simp [pk]
  · rename_i v _
    simp at h
    rw [h.1, ← cellsB_eq h.2]; simp [pk]
  · cases h
def getTyB (T : Tab) (id : Nat) (t : Ty) : Bool := match T.get id with | some (.ty u) => Ty.eqb u t | _ => false
theorem getTyB_eq {T : Tab} {id : Nat} {t : Ty} (h : getTyB T id t = true) : T.get id = some (.ty t) := by
  unfold getTyB at h; split at h
  · rename_i u hu; rw [hu, Ty.eq_of_eqb h]
  · cases h
def fldsB (T : Tab) : List Field → Nat → Ty → Bool
  | [], _, .unit => true
  | f :: fs, o, .prod a b => Nat.beq f.offset o && getTyB T f.type a && (f.name != "_") && !Nat.beq a.size 0 && fldsB T fs (o + a.size) b
  | _, _, _ => false
theorem fldsB_ok {T : Tab} : ∀ {fs : List Field} {o : Nat} {t : Ty}, fldsB T fs o t = true → fldsOK T fs o t
  | [], _, .unit, _ => trivial
  | f :: fs, o, .prod a b, h => by
    simp [fldsB] at h
    exact ⟨h.1.1.1.1, getTyB_eq h.1.1.1.2, h.1.1.2, (fun e => by rw [e] at h; simp at h), fldsB_ok h.2⟩
def descB (P : Program) (T : Tab) (id : Nat) (t : Ty) : Bool :=
  match t, P.underlying id with
  | .int k, some (.int l) => IntKind.eqb k l
  | .bool, some .bool => true
  | .str, some .string => true
  | .arr n u, some (.array m e) => Nat.beq n m && getTyB T e u
  | .list u, some (.slice e) => getTyB T e u
  | .st s, some (.struct fs) => fldsB T fs.toList 0 s.body && !P.stoodInHeld id
  | _, _ => false
theorem descB_ok {P : Program} {T : Tab} {id : Nat} {t : Ty} (h : descB P T id t = true) : descOK P T id t := by
  unfold descB at h
  split at h
  · rename_i hu; rw [← IntKind.eq_of_eqb h] at hu; exact hu
  · rename_i hu; exact hu
  · rename_i hu; exact hu
  · rename_i hu; simp at h; rw [← h.1] at hu; exact ⟨_, hu, getTyB_eq h.2⟩
  · rename_i hu; exact ⟨_, hu, getTyB_eq h⟩
  · rename_i hu; simp at h; exact ⟨_, hu, fldsB_ok h.1, h.2⟩
  · cases h
def nilMapB : Option Value → Bool
  | some (.map none) => true
  | _ => false
theorem nilMapB_eq {z : Option Value} (h : nilMapB z = true) : z = some (.map none) := by
  unfold nilMapB at h
  split at h
  · rfl
  · cases h
def nilPtrB : Option Value → Bool
  | some (.pointer none) => true
  | _ => false
theorem nilPtrB_eq {z : Option Value} (h : nilPtrB z = true) : z = some (.pointer none) := by
  unfold nilPtrB at h
  split at h
  · rfl
  · cases h
def fitsB (P : Program) (T : Tab) (id : Nat) (e : TE) : Bool :=
  match e, P.info? id with
  | .ty t, some i => descB P T id t && Nat.beq i.size t.size && Nat.beq i.bytes t.bytes && zeroB t i.zero && !P.eqGuardType P.depth id
  | .mp k v, some i => (match P.underlying id with | some (.map kid vid) => getTyB T kid k && getTyB T vid v | _ => false) && Nat.beq i.size 1 && nilMapB i.zero
  | .one, some i => (match P.underlying id with | some (.struct _) => false | some (.array _ _) => false | some _ => true | none => false) && Nat.beq i.size 1
  | .pt, some i => (match P.underlying id with | some (.struct _) => false | some (.array _ _) => false | some _ => true | none => false) && Nat.beq i.size 1 && nilPtrB i.zero
  | _, none => false
theorem fitsB_ok {P : Program} {T : Tab} {id : Nat} {e : TE} (h : fitsB P T id e = true) : Fits P T id e := by
  unfold fitsB at h
  split at h
  · rename_i i hi
    simp at h
    exact ⟨descB_ok h.1.1.1.1, ⟨_, hi, h.1.1.1.2, h.1.1.2, zeroB_eq h.1.2⟩, h.2⟩
  · rename_i i hi
    simp at h
    refine ⟨?_, _, hi, h.1.2, nilMapB_eq h.2⟩
    have h1 := h.1.1
    split at h1
    · rename_i hu; simp at h1; exact ⟨_, _, hu, getTyB_eq h1.1, getTyB_eq h1.2⟩
    · cases h1
  · rename_i i hi
    simp at h
    refine ⟨?_, _, hi, h.2⟩
    have h1 := h.1
    split at h1
    · cases h1
    · cases h1
    · rename_i d hd1 hd2 hu; exact ⟨_, hu, fun fs he => hd1 fs (by rw [← he]), fun n e he => hd2 n e (by rw [← he])⟩
    · cases h1
  · rename_i i hi
    simp at h
    refine ⟨?_, _, hi, h.1.2, nilPtrB_eq h.2⟩
    have h1 := h.1.1
    split at h1
    · cases h1
    · cases h1
    · rename_i d hd1 hd2 hu; exact ⟨_, hu, fun fs he => hd1 fs (by rw [← he]), fun n e he => hd2 n e (by rw [← he])⟩
    · cases h1
  · cases h
def tabB (P : Program) (T : Tab) : Tab → Bool
  | [] => true
  | (id, e) :: r => fitsB P T id e && tabB P T r
theorem tabB_ok {P : Program} {T : Tab} : ∀ {U : Tab}, tabB P T U = true → ∀ id e, U.get id = some e → Fits P T id e
  | [], _, id, e, h => by simp [Tab.get] at h
  | (i, f) :: r, hb, id, e, h => by
    simp [tabB] at hb
    unfold Tab.get at h
    split at h
    · rename_i hq
      have hid : id = i := Nat.eq_of_beq_eq_true hq
      cases h; subst hid
      exact fitsB_ok hb.1
    · exact tabB_ok hb.2 id e h
theorem TabOK.of {P : Program} {T : Tab} (h : tabB P T T = true) : TabOK P T := tabB_ok h

def TE.size : TE → Nat
  | .ty t => t.size
  | _ => 1
def TE.agg : TE → Bool
  | .ty t => t.agg
  | _ => false
section
variable {P : Program} {T : Tab} (hT : TabOK P T) {id : Nat}
include hT
theorem run_sizeOf' {e : TE} (h : T.get id = some e) (w : World) : (sizeOf id).run P w = .ok e.size w := by
  have hf := hT id e h
  cases e with
  | ty t => obtain ⟨_, ⟨i, hi, hs, _⟩, _⟩ := hf; simp [sizeOf, typeInfo, hi, hs, TE.size]
  | mp k v => obtain ⟨_, i, hi, hs, _⟩ := hf; simp [sizeOf, typeInfo, hi, hs, TE.size]
  | one => obtain ⟨_, i, hi, hs⟩ := hf; simp [sizeOf, typeInfo, hi, hs, TE.size]
  | pt => obtain ⟨_, i, hi, hs, _⟩ := hf; simp [sizeOf, typeInfo, hi, hs, TE.size]
theorem run_isAgg' {e : TE} (h : T.get id = some e) (w : World) : (isAgg id).run P w = .ok e.agg w := by
  have hf := hT id e h
  cases e with
  | ty t =>
    obtain ⟨hd, _⟩ := hf
    cases t with
    | int k => simp [isAgg, run_underlying (show P.underlying id = _ from hd), TE.agg, Ty.agg]
    | bool => simp [isAgg, run_underlying (show P.underlying id = _ from hd), TE.agg, Ty.agg]
    | str => simp [isAgg, run_underlying (show P.underlying id = _ from hd), TE.agg, Ty.agg]
    | unit => exact hd.elim
    | prod a b => exact hd.elim
    | arr n u => obtain ⟨e, hu, _⟩ := hd; simp [isAgg, run_underlying hu, TE.agg, Ty.agg]
    | list u => obtain ⟨e, hu, _⟩ := hd; simp [isAgg, run_underlying hu, TE.agg, Ty.agg]
    | st s => obtain ⟨e, hu, _⟩ := hd; simp [isAgg, run_underlying hu, TE.agg, Ty.agg]
  | mp k v => obtain ⟨⟨kid, vid, hu, _⟩, _⟩ := hf; simp [isAgg, run_underlying hu, TE.agg]
  | one =>
    obtain ⟨⟨d, hu, h1, h2⟩, _⟩ := hf
    cases d <;> simp_all [isAgg, run_underlying hu, TE.agg]
  | pt =>
    obtain ⟨⟨d, hu, h1, h2⟩, _⟩ := hf
    cases d <;> simp_all [isAgg, run_underlying hu, TE.agg]
theorem run_zeroValue' {t : Ty} (h : T.get id = some (.ty t)) (w : World) : (zeroValue id).run P w = .ok (pk t.agg (zcells t)) w := by
  obtain ⟨_, ⟨i, hi, _, _, hz⟩, _⟩ := hT id _ h
  simp [zeroValue, typeInfo, hi, hz]
end

/-! ### Parts of plain data -/
theorem Rd.nth {w : World} {im : Nat → Prop} : ∀ (b : Ty) (x : b.den) (cs : List Value) (i : Nat) (u : Ty), Rd w im b x cs → nthTy b i = some u →
    ∃ y, getNth b x i = some ⟨u, y⟩ ∧ ∃ c d e, cs = c ++ d ++ e ∧ c.length = nthOff b i ∧ Rd w im u y d := by
  intro b
  induction b with
  | prod a b _ ihb =>
    intro x cs i u h hn
    rw [Rd.prod] at h
    obtain ⟨c, d, rfl, hc, hd⟩ := h
    cases i with
    | zero =>
      simp [nthTy] at hn; subst hn
      exact ⟨x.1, rfl, [], c, d, by simp, rfl, hc⟩
    | succ i =>
      obtain ⟨y, hy, c', d', e', rfl, hl, hr⟩ := ihb x.2 d i u hd hn
      exact ⟨y, hy, c ++ c', d', e', by simp, by simp [nthOff, hl, Rd.len _ _ _ hc], hr⟩
  | _ => intro x cs i u _ hn; cases i <;> simp [nthTy] at hn
theorem Arr.get_toList {n : Nat} {α : Type} [Inhabited α] (a : Arr n α) (i : Int) : Arr.get a i = (Vector.toList a).getD i.toNat default := by
  simp [Arr.get, Vector.toList, Array.getD_eq_getD_getElem?, List.getD]
theorem Rd.at {w : World} {im : Nat → Prop} : ∀ (p : List PS) (t : Ty) (x : t.den) (cs : List Value) (u : Ty) (o : Nat), Rd w im t x cs → tyAt t p = some (u, o) → inRange t p →
    ∃ y, getAt t x p = some ⟨u, y⟩ ∧ ∃ c d e, cs = c ++ d ++ e ∧ c.length = o ∧ Rd w im u y d := by
  intro p
  induction p with
  | nil =>
    intro t x cs u o h ht _
    simp [tyAt] at ht
    obtain ⟨rfl, rfl⟩ := ht
    exact ⟨x, rfl, [], cs, [], by simp, rfl, h⟩
  | cons s p ih =>
    intro t x cs u o h ht hr
    cases s with
    | fld i =>
      cases t <;> simp [tyAt] at ht
      rename_i s
      cases hn : nthTy s.body i with
      | none => simp [hn] at ht
      | some v =>
        rw [Rd.st] at h
        obtain ⟨y, hy, c, d, e, rfl, hl, hd⟩ := Rd.nth _ _ _ _ _ h hn
        simp only [hn] at ht
        cases ha : tyAt v p with
        | none => simp [ha] at ht
        | some vo =>
          obtain ⟨u', o'⟩ := vo
          simp [ha] at ht
          obtain ⟨rfl, rfl⟩ := ht
          have hr' : inRange v p := by simpa [inRange, hn] using hr
          obtain ⟨z, hz, c', d', e', rfl, hl', hd'⟩ := ih v y d u' o' hd ha hr'
          refine ⟨z, by simp [getAt, getFld, hy, hz], c ++ c', d', e' ++ e, by simp, by simp [hl, hl'], hd'⟩
    | idx i =>
      cases t <;> simp [tyAt] at ht
      rename_i n t
      obtain ⟨h0, h1, hr'⟩ := hr
      rw [Rd.arr] at h
      obtain ⟨css, rfl, hall⟩ := h
      have hi : i.toNat < (Vector.toList x).length := by simp; omega
      obtain ⟨c, hc, hd⟩ := hall.get i.toNat _ (List.getElem?_eq_getElem hi)
      have hg : Arr.get (n := n) x i = (Vector.toList x)[i.toNat] := by
        rw [Arr.get_toList]; simp [List.getD, List.getElem?_eq_getElem hi]
      cases ha : tyAt t p with
      | none => simp [ha] at ht
      | some vo =>
        obtain ⟨u', o'⟩ := vo
        simp [ha] at ht
        obtain ⟨rfl, rfl⟩ := ht
        obtain ⟨z, hz, c', d', e', rfl, hl', hd'⟩ := ih t _ c u' o' hd ha hr'
        have hf := flatten_at hall.lens hc
        have hlen : css.flatten.length = css.length * t.size := flatten_len hall.lens
        refine ⟨z, by simp only [getAt, hg]; exact hz, css.flatten.take (i.toNat * t.size) ++ c', d', e' ++ css.flatten.drop (i.toNat * t.size + t.size), ?_, ?_, hd'⟩
        · conv => lhs; rw [hf]
          simp
        · have hle : i.toNat * t.size ≤ css.flatten.length := by
            rw [hlen]; exact Nat.mul_le_mul_right _ (by rw [← hall.length]; omega)
          have e2 : (css.flatten.take (i.toNat * t.size)).length = i.toNat * t.size := by rw [List.length_take]; omega
          rw [List.length_append, e2, hl']

theorem Rd.modNth {w : World} {im : Nat → Prop} {u : Ty} {f : (u : Ty) → u.den → Option u.den} {d' : List Value} : ∀ (b : Ty) (x : b.den) (cs : List Value) (i : Nat), Rd w im b x cs → nthTy b i = some u →
    (∀ y d, getNth b x i = some ⟨u, y⟩ → (∃ c e, cs = c ++ d ++ e ∧ c.length = nthOff b i) → Rd w im u y d → ∃ y', f u y = some y' ∧ Rd w im u y' d') → d'.length = u.size →
    ∃ x', modNth b x i f = some x' ∧ Rd w im b x' (cs.take (nthOff b i) ++ d' ++ cs.drop (nthOff b i + u.size)) := by
  intro b
  induction b with
  | prod a b _ ihb =>
    intro x cs i h hn hf hl
    rw [Rd.prod] at h
    obtain ⟨c, d, rfl, hc, hd⟩ := h
    cases i with
    | zero =>
      simp [nthTy] at hn; subst hn
      obtain ⟨y', hy, hr⟩ := hf x.1 c rfl ⟨[], d, by simp, rfl⟩ hc
      refine ⟨(y', x.2), by simp [Co.modNth, hy], ?_⟩
      rw [Rd.prod]
      refine ⟨d', d, ?_, hr, hd⟩
      have := Rd.len _ _ _ hc
      simp [nthOff, this]
    | succ i =>
      obtain ⟨x', hx, hr⟩ := ihb x.2 d i hd hn (fun y d2 hy ⟨c2, e2, he, hl2⟩ hr => hf y d2 hy ⟨c ++ c2, e2, by rw [he]; simp, by simp [nthOff, hl2, Rd.len _ _ _ hc]⟩ hr) hl
      refine ⟨(x.1, x'), by simp [Co.modNth, hx], ?_⟩
      rw [Rd.prod]
      refine ⟨c, _, ?_, hc, hr⟩
      have hcl := Rd.len _ _ _ hc
      simp only [nthOff]
      rw [List.take_append, List.drop_append, ← hcl, List.take_of_length_le (by omega), List.drop_of_length_le (by omega)]
      simp [Nat.add_assoc]
  | _ => intro x cs i _ hn; cases i <;> simp [nthTy] at hn
theorem splice_in {α : Type} {c d e d' : List α} {o n m : Nat} (hc : c.length = o) (hd : d.length = n) (h : m + d'.length ≤ n) :
    (c ++ d ++ e).take (o + m) ++ d' ++ (c ++ d ++ e).drop (o + m + d'.length) = c ++ (d.take m ++ d' ++ d.drop (m + d'.length)) ++ e := by
  subst hc; subst hd
  have e1 : (c ++ d ++ e).take (c.length + m) = c ++ d.take m := by
    rw [List.append_assoc, List.take_length_add_append, List.take_append_of_le_length (by omega)]
  have e2 : (c ++ d ++ e).drop (c.length + m + d'.length) = d.drop (m + d'.length) ++ e := by
    rw [List.append_assoc, Nat.add_assoc, List.drop_length_add_append, List.drop_append_of_le_length (by omega)]
  rw [e1, e2]; simp
theorem tyAt_le : ∀ (p : List PS) (t u : Ty) (o : Nat), tyAt t p = some (u, o) → inRange t p → o + u.size ≤ t.size := by
  intro p
  induction p with
  | nil => intro t u o h _; simp [tyAt] at h; obtain ⟨rfl, rfl⟩ := h; omega
  | cons s p ih =>
    intro t u o h hr
    cases s with
    | fld i =>
      cases t <;> simp [tyAt] at h
      rename_i s
      cases hn : nthTy s.body i with
      | none => simp [hn] at h
      | some v =>
        simp only [hn] at h
        cases ha : tyAt v p with
        | none => simp [ha] at h
        | some vo =>
          obtain ⟨u', o'⟩ := vo
          simp [ha] at h
          obtain ⟨rfl, rfl⟩ := h
          have h1 := ih v u' o' ha (by simpa [inRange, hn] using hr)
          have h2 : nthOff s.body i + v.size ≤ s.body.size := by
            clear ha h1 hr
            generalize s.body = b at hn
            induction b generalizing i with
            | prod a b _ ihb =>
              cases i with
              | zero => simp [nthTy] at hn; subst hn; simp [nthOff, Ty.size]
              | succ i => have := ihb i hn; simp [nthOff, Ty.size]; omega
            | _ => cases i <;> simp [nthTy] at hn
          rw [St.size_body] at h2
          simp only [Ty.size]; omega
    | idx i =>
      cases t <;> simp [tyAt] at h
      rename_i n t
      obtain ⟨h0, h1, hr'⟩ := hr
      cases ha : tyAt t p with
      | none => simp [ha] at h
      | some vo =>
        obtain ⟨u', o'⟩ := vo
        simp [ha] at h
        obtain ⟨rfl, rfl⟩ := h
        have h2 := ih t u' o' ha hr'
        have h3 : (i.toNat + 1) * t.size ≤ n * t.size := Nat.mul_le_mul_right _ (by omega)
        rw [Nat.add_mul] at h3
        simp only [Ty.size]; omega
theorem Rd.setAt {w : World} {im : Nat → Prop} {u : Ty} {z : u.den} {d' : List Value} (hz : Rd w im u z d') : ∀ (p : List PS) (t : Ty) (x : t.den) (cs : List Value) (o : Nat), Rd w im t x cs → tyAt t p = some (u, o) → inRange t p →
    ∃ x', setAt t x p ⟨u, z⟩ = some x' ∧ Rd w im t x' (cs.take o ++ d' ++ cs.drop (o + u.size)) := by
  intro p
  induction p with
  | nil =>
    intro t x cs o h ht _
    simp [tyAt] at ht
    obtain ⟨rfl, rfl⟩ := ht
    refine ⟨z, ?_, ?_⟩
    · simp only [Co.setAt, cast?]
      split
      · rfl
      · rename_i he; simp [Ty.eqb_self] at he
    · have := Rd.len _ _ _ h
      rw [← this]; simpa using hz
  | cons s p ih =>
    intro t x cs o h ht hr
    cases s with
    | fld i =>
      cases t <;> simp [tyAt] at ht
      rename_i s
      cases hn : nthTy s.body i with
      | none => simp [hn] at ht
      | some v =>
        rw [Rd.st] at h
        simp only [hn] at ht
        cases ha : tyAt v p with
        | none => simp [ha] at ht
        | some vo =>
          obtain ⟨u', o'⟩ := vo
          simp [ha] at ht
          obtain ⟨rfl, rfl⟩ := ht
          have hr' : inRange v p := by simpa [inRange, hn] using hr
          have hle := tyAt_le p v u' o' ha hr'
          have hdl := Rd.len _ _ _ hz
          obtain ⟨y, hy, c, d, e, hcs, hl, hd⟩ := Rd.nth _ _ _ _ _ h hn
          have hdl2 := Rd.len _ _ _ hd
          obtain ⟨x', hx, hrx⟩ := Rd.modNth (u := v) (f := fun u y => Co.setAt u y p ⟨u', z⟩) (d' := d.take o' ++ d' ++ d.drop (o' + u'.size)) s.body (s.unpack x) cs i h hn (fun y2 d2 hy2 he2 hr2 => by
              rw [hy] at hy2
              cases hy2
              have : d2 = d := by
                obtain ⟨c2, e2, hcs2, hl2⟩ := he2
                have := Rd.len _ _ _ hr2
                rw [hcs2] at hcs
                have h1 := List.append_inj (by simpa using hcs) (by omega)
                exact (List.append_inj h1.2 (by omega)).1
              subst this
              exact ih v y d2 o' hr2 ha hr') (by simp [List.length_take, List.length_drop]; omega)
          refine ⟨s.pack x', by simp [Co.setAt, modFld, hx], ?_⟩
          rw [Rd.st, St.unpack_pack]
          have e1 := splice_in (e := e) (d' := d') (m := o') hl hdl2 (by omega)
          rw [← hcs] at e1
          rw [hdl] at e1
          rw [e1]
          have e2 : cs.take (nthOff s.body i) = c := by rw [hcs, ← hl]; simp
          have e3 : cs.drop (nthOff s.body i + v.size) = e := by
            rw [hcs, ← hl, ← hdl2, ← List.length_append, List.drop_left]
          rw [e2, e3] at hrx
          exact hrx
    | idx i =>
      cases t <;> simp [tyAt] at ht
      rename_i n t
      obtain ⟨h0, h1, hr'⟩ := hr
      rw [Rd.arr] at h
      obtain ⟨css, rfl, hall⟩ := h
      have hi : i.toNat < (Vector.toList x).length := by simp; omega
      obtain ⟨c, hc, hd⟩ := hall.get i.toNat _ (List.getElem?_eq_getElem hi)
      have hg : Arr.get (n := n) x i = (Vector.toList x)[i.toNat] := by
        rw [Arr.get_toList]; simp [List.getD, List.getElem?_eq_getElem hi]
      cases ha : tyAt t p with
      | none => simp [ha] at ht
      | some vo =>
        obtain ⟨u', o'⟩ := vo
        simp [ha] at ht
        obtain ⟨rfl, rfl⟩ := ht
        have hle := tyAt_le p t u' o' ha hr'
        have hdl := Rd.len _ _ _ hz
        obtain ⟨y', hy', hry⟩ := ih t _ c o' hd ha hr'
        have hic : i.toNat < css.length := by rw [← hall.length]; exact hi
        have hcl := hall.lens c (List.mem_of_getElem? hc)
        have hfl : css.flatten.length = css.length * t.size := flatten_len hall.lens
        have hle2 : i.toNat * t.size ≤ css.flatten.length := by rw [hfl]; exact Nat.mul_le_mul_right _ (by omega)
        refine ⟨Arr.put x i y', by simp only [Co.setAt, hg, hy'], ?_⟩
        rw [Rd.arr]
        refine ⟨css.set i.toNat (c.take o' ++ d' ++ c.drop (o' + u'.size)), ?_, ?_⟩
        · rw [flatten_set hall.lens hic]
          have hf := flatten_at hall.lens hc
          have e1 := splice_in (e := css.flatten.drop (i.toNat * t.size + t.size)) (d' := d') (m := o') (c := css.flatten.take (i.toNat * t.size)) (o := i.toNat * t.size)
            (by rw [List.length_take]; omega) hcl (by omega)
          rw [← hf, hdl] at e1
          rw [e1]
        · have e : Vector.toList (Arr.put x i y') = (Vector.toList x).set i.toNat y' := by
            simp [Arr.put, Vector.toList, Vector.setIfInBounds]
          rw [e]
          exact All2.set hry i.toNat hall

/-! ### Parts of values -/
theorem has_val {t : Ty} {x : t.den} {u : Ty} (h : (AV.val t x).has u = true) : t = u := Ty.eq_of_eqb h
theorem RC.nth {E : Env} : ∀ {l : AV} {b : Ty} {cs : List Value} {i : Nat} {a : AV} {u : Ty}, l.has b = true → RC E l cs → nthTy b i = some u → nthAV l i = some a →
    a.has u = true ∧ ∃ c d e, cs = c ++ d ++ e ∧ c.length = nthOff b i ∧ RC E a d := by
  intro l
  induction l with
  | cons x l _ ihl =>
    intro b cs i a u hh hr hn ha
    cases b <;> simp [AV.has] at hh
    obtain ⟨c, d, rfl, h1, h2⟩ := hr
    cases i with
    | zero =>
      simp [nthAV] at ha; subst ha
      simp [nthTy] at hn; subst hn
      exact ⟨hh.1, [], c, d, by simp, rfl, h1⟩
    | succ i =>
      obtain ⟨hu, c', d', e', rfl, hl, hr⟩ := ihl hh.2 h2 hn ha
      exact ⟨hu, c ++ c', d', e', by simp, by simp [nthOff, hl, has_cells hh.1 h1], hr⟩
  | _ => intro b cs i a u _ _ _ ha; cases i <;> simp [nthAV] at ha
theorem RC.setNth {E : Env} {a' : AV} {d' : List Value} : ∀ {l l' : AV} {b : Ty} {cs : List Value} {i : Nat} {u : Ty}, l.has b = true → RC E l cs → nthTy b i = some u → a'.has u = true → RC E a' d' → setNthAV l i a' = some l' →
    l'.has b = true ∧ RC E l' (cs.take (nthOff b i) ++ d' ++ cs.drop (nthOff b i + u.size)) := by
  intro l
  induction l with
  | cons x l _ ihl =>
    intro l' b cs i u hh hr hn ha hd hs
    cases b <;> simp [AV.has] at hh
    obtain ⟨c, d, rfl, h1, h2⟩ := hr
    have hcl := has_cells hh.1 h1
    cases i with
    | zero =>
      simp [setNthAV] at hs; subst hs
      simp [nthTy] at hn; subst hn
      refine ⟨by simp [AV.has, ha, hh.2], d', d, ?_, hd, h2⟩
      simp [nthOff, ← hcl]
    | succ i =>
      simp only [setNthAV] at hs
      split at hs
      · rename_i l2 hl2
        cases hs
        obtain ⟨hb, hr⟩ := ihl hh.2 h2 hn ha hd hl2
        refine ⟨by simp [AV.has, hh.1, hb], c, _, ?_, h1, hr⟩
        simp only [nthOff]
        rw [List.take_append, List.drop_append, ← hcl, List.take_of_length_le (by omega), List.drop_of_length_le (by omega)]
        simp [Nat.add_assoc]
      · cases hs
  | _ => intro l' b cs i u _ _ _ _ _ hs; cases i <;> simp [setNthAV] at hs
/-- A struct's fields, told one by one. -/
def isBody : Ty → Bool
  | .unit => true
  | .prod _ b => isBody b
  | _ => false
theorem isBody_body (s : St) : isBody s.body = true := by cases s <;> rfl
theorem exBody_has : ∀ (b : Ty) (x : b.den), isBody b = true → (exBody b x).has b = true := by
  intro b
  induction b with
  | unit => intro x _; rfl
  | prod a b _ ihb => intro x h; simp [exBody, AV.has, Ty.eqb_self, ihb x.2 h]
  | _ => intro x h; simp [isBody] at h
theorem exBody_RC {E : Env} : ∀ (b : Ty) (x : b.den) (cs : List Value), isBody b = true → Rd E.w E.imm b x cs → RC E (exBody b x) cs := by
  intro b
  induction b with
  | unit => intro x cs _ h; rw [Rd.unit] at h; exact h
  | prod a b _ ihb => intro x cs hb h; rw [Rd.prod] at h; obtain ⟨c, d, e, h1, h2⟩ := h; exact ⟨c, d, e, h1, ihb x.2 d hb h2⟩
  | _ => intro x cs h; simp [isBody] at h

theorem loadAV_nil (v : AV) : loadAV v [] = some v := by unfold loadAV; rfl
theorem load_sound {E : Env} : ∀ (p : List PS) (v y : AV) (t u : Ty) (o : Nat) (cs : List Value), v.has t = true → RC E v cs → tyAt t p = some (u, o) → inRange t p → loadAV v p = some y →
    y.has u = true ∧ ∃ c d e, cs = c ++ d ++ e ∧ c.length = o ∧ RC E y d := by
  intro p
  induction p with
  | nil =>
    intro v y t u o cs hh hr ht _ hl
    simp [tyAt] at ht
    obtain ⟨rfl, rfl⟩ := ht
    simp [loadAV_nil] at hl; subst hl
    exact ⟨hh, [], cs, [], by simp, rfl, hr⟩
  | cons s p ih =>
    intro v y t u o cs hh hr ht hi hl
    cases v with
    | val t' x =>
      have := has_val hh; subst this
      obtain ⟨z, hz, hrest⟩ := Rd.at _ _ _ _ _ _ hr ht hi
      simp [loadAV, hz] at hl
      subst hl
      exact ⟨Ty.eqb_self u, hrest⟩
    | agv S l =>
      cases t <;> simp [AV.has] at hh
      rename_i S'
      have := St.no_inj hh.1; subst this
      cases s with
      | idx i => simp [loadAV] at hl
      | fld i =>
        simp only [tyAt] at ht
        cases hn : nthTy S.body i with
        | none => simp [hn] at ht
        | some v =>
          simp only [hn] at ht
          cases ha : tyAt v p with
          | none => simp [ha] at ht
          | some vo =>
            obtain ⟨u', o'⟩ := vo
            simp [ha] at ht
            obtain ⟨rfl, rfl⟩ := ht
            simp only [loadAV] at hl
            cases hq : nthAV l i with
            | none => simp [hq] at hl
            | some a =>
              simp only [hq] at hl
              obtain ⟨hau, c, d, e, rfl, hcl, hra⟩ := RC.nth hh.2 hr hn hq
              obtain ⟨hy, c', d', e', rfl, hl', hr'⟩ := ih a y v u' o' d hau hra ha (by simpa [inRange, hn] using hi) hl
              exact ⟨hy, c ++ c', d', e' ++ e, by simp, by simp [hcl, hl'], hr'⟩
    | _ => simp [loadAV] at hl
theorem splice_len {α : Type} {cs d' : List α} {o n : Nat} (hd : d'.length = n) (h : o + n ≤ cs.length) : (cs.take o ++ d' ++ cs.drop (o + n)).length = cs.length := by
  simp [hd]; omega
theorem agv_store {E : Env} {S : St} {l l' a a' : AV} {p : List PS} {i : Nat} {u v : Ty} {o : Nat} {cs d' : List Value} (hh : l.has S.body = true) (hr : RC E l cs) (hn : nthTy S.body i = some v) (hq : nthAV l i = some a)
    (ha : tyAt v p = some (u, o)) (hi : inRange v p) (hd : d'.length = u.size) (hs : setNthAV l i a' = some l')
    (hst : ∀ d, RC E a d → a.has v = true → a'.has v = true ∧ RC E a' (d.take o ++ d' ++ d.drop (o + u.size))) :
    l'.has S.body = true ∧ RC E l' (cs.take (nthOff S.body i + o) ++ d' ++ cs.drop (nthOff S.body i + o + u.size)) := by
  obtain ⟨hau, c, d, e, hcs, hcl, hra⟩ := RC.nth hh hr hn hq
  obtain ⟨h1, h2⟩ := hst d hra hau
  have hdl := has_cells hau hra
  have hle := tyAt_le p v u o ha hi
  obtain ⟨h3, h4⟩ := RC.setNth hh hr hn h1 h2 hs
  refine ⟨h3, ?_⟩
  have e1 := splice_in (e := e) (d' := d') (m := o) hcl hdl (by omega)
  rw [← hcs, hd] at e1
  rw [e1]
  have e2 : cs.take (nthOff S.body i) = c := by rw [hcs, ← hcl]; simp
  have e3 : cs.drop (nthOff S.body i + v.size) = e := by rw [hcs, ← hcl, ← hdl, ← List.length_append, List.drop_left]
  rw [e2, e3] at h4
  exact h4
theorem store_sound {E : Env} {y : AV} {u : Ty} {d' : List Value} (hy : y.has u = true) (hd : RC E y d') : ∀ (p : List PS) (v v' : AV) (t : Ty) (o : Nat) (cs : List Value), v.has t = true → RC E v cs → tyAt t p = some (u, o) → inRange t p → storeAV v p y = some v' →
    v'.has t = true ∧ RC E v' (cs.take o ++ d' ++ cs.drop (o + u.size)) := by
  have hdl := has_cells hy hd
  intro p
  induction p with
  | nil =>
    intro v v' t o cs hh hr ht _ hs
    simp [tyAt] at ht
    obtain ⟨rfl, rfl⟩ := ht
    have : storeAV v [] y = some y := by unfold storeAV; rfl
    rw [this] at hs; cases hs
    refine ⟨hy, ?_⟩
    have := has_cells hh hr
    rw [← this]; simpa using hd
  | cons s p ih =>
    intro v v' t o cs hh hr ht hi hs
    cases v with
    | val t' x =>
      have := has_val hh; subst this
      unfold storeAV at hs
      split at hs
      · rename_i u' z
        have := has_val hy; subst this
        obtain ⟨x', hx, hrx⟩ := Rd.setAt (show Rd E.w E.imm u' z d' from hd) _ _ _ _ _ hr ht hi
        simp only [hx] at hs
        cases hs
        exact ⟨Ty.eqb_self _, hrx⟩
      · rename_i hnv
        split at hs
        · rename_i S x i
          have hh' : (exBody S.body (S.unpack x)).has S.body = true := exBody_has _ _ (isBody_body S)
          have hr' : RC E (exBody S.body (S.unpack x)) cs := exBody_RC _ _ _ (isBody_body S) (by rw [← Rd.st]; exact hr)
          cases hq : nthAV (exBody S.body (S.unpack x)) i with
          | none => simp [hq] at hs
          | some a =>
            simp only [hq] at hs
            cases ha' : storeAV a p y with
            | none => simp [ha'] at hs
            | some a' =>
              simp only [ha'] at hs
              cases hl' : setNthAV (exBody S.body (S.unpack x)) i a' with
              | none => simp [hl'] at hs
              | some l' =>
                simp only [hl'] at hs
                cases hs
                simp only [tyAt] at ht
                cases hn : nthTy S.body i with
                | none => simp [hn] at ht
                | some v =>
                  simp only [hn] at ht
                  cases ha : tyAt v p with
                  | none => simp [ha] at ht
                  | some vo =>
                    obtain ⟨u', o'⟩ := vo
                    simp [ha] at ht
                    obtain ⟨rfl, rfl⟩ := ht
                    have hi' : inRange v p := by simpa [inRange, hn] using hi
                    obtain ⟨h1, h2⟩ := agv_store hh' hr' hn hq ha hi' hdl hl' (fun d hd hha => ih a a' v o' d hha hd ha hi' ha')
                    exact ⟨by simp [AV.has, h1], h2⟩
        · cases hs
    | agv S l =>
      cases t <;> simp [AV.has] at hh
      rename_i S'
      have := St.no_inj hh.1; subst this
      cases s with
      | idx i => simp [storeAV] at hs
      | fld i =>
        simp only [storeAV] at hs
        cases hq : nthAV l i with
        | none => simp [hq] at hs
        | some a =>
          simp only [hq] at hs
          cases ha' : storeAV a p y with
          | none => simp [ha'] at hs
          | some a' =>
            simp only [ha'] at hs
            cases hl' : setNthAV l i a' with
            | none => simp [hl'] at hs
            | some l' =>
              simp only [hl'] at hs
              cases hs
              simp only [tyAt] at ht
              cases hn : nthTy S.body i with
              | none => simp [hn] at ht
              | some v =>
                simp only [hn] at ht
                cases ha : tyAt v p with
                | none => simp [ha] at ht
                | some vo =>
                  obtain ⟨u', o'⟩ := vo
                  simp [ha] at ht
                  obtain ⟨rfl, rfl⟩ := ht
                  have hi' : inRange v p := by simpa [inRange, hn] using hi
                  obtain ⟨h1, h2⟩ := agv_store hh.2 hr hn hq ha hi' hdl hl' (fun d hd hha => ih a a' v o' d hha hd ha hi' ha')
                  exact ⟨by simp [AV.has, h1], h2⟩
    | _ => simp [storeAV] at hs
end Go.Co
end

section
namespace Go.Co
open Go.RowKit

theorem Mem.put_same (m : Mem) (b : Nat) (x : AB) : (m.put b x) b = x := by simp [Mem.put]
theorem Mem.put_ne (m : Mem) {b i : Nat} (x : AB) (h : i ≠ b) : (m.put b x) i = m i := by
  have : Nat.beq i b = false := by
    cases hb : Nat.beq i b with
    | false => rfl
    | true => exact absurd (Nat.eq_of_beq_eq_true hb) h
  simp [Mem.put, this]

/-- A live block lies somewhere, or is the nil row. -/
theorem RM.some {E : Env} {b : Nat} {x : AB} (h : RM E b x) (hl : live x) : ∃ bt, E.ρ b = some bt := by
  cases x with
  | none => exact hl.elim
  | dead => exact hl.elim
  | frz t xs => exact hl.elim
  | var t v => obtain ⟨_, k, cs, el, hb, _⟩ := h; exact ⟨_, hb⟩
  | slab t xs => obtain ⟨_, h⟩ := h; rcases h with ⟨hb, _⟩ | ⟨k, cap, cs, el, css, rest, hb, _⟩ <;> exact ⟨_, hb⟩
  | map k v m => obtain ⟨base, es, clock, hb, _⟩ := h; exact ⟨_, hb⟩
theorem RE.ext {E E' : Env} (h : Ext E E') {k v : Ty} {e : k.den × v.den} {m : MapEntry} (hr : RE E k v e m) : RE E' k v e m := by
  obtain ⟨⟨c, h1, h2⟩, d, h3, h4⟩ := hr
  exact ⟨⟨c, h1, h2.ext h⟩, d, h3, h4.ext h⟩
/-- A block that isn't touched. -/
theorem RM.frame {E E' : Env} (h : Ext E E') {b : Nat} {x : AB} (hr : RM E b x) (hk : ∀ bt k, E.ρ b = Option.some bt → bt.base = Option.some k → live x → E'.w.heap[k]? = E.w.heap[k]?) : RM E' b x := by
  cases x with
  | none => trivial
  | dead => trivial
  | frz t xs =>
    obtain ⟨bt, cs, h0, h3, h1, h2⟩ := hr
    exact ⟨bt, cs, h.ρ _ _ h0, h3, h1.ext h, Rd.ext h h2⟩
  | var t v =>
    obtain ⟨hh, k, cs, el, hb, hc, hr⟩ := hr
    exact ⟨hh, k, cs, el, h.ρ _ _ hb, by rw [hk _ _ hb rfl trivial]; exact hc, hr.ext h⟩
  | slab t xs =>
    obtain ⟨ht, hr⟩ := hr
    refine ⟨ht, ?_⟩
    rcases hr with ⟨hb, he⟩ | ⟨k, cap, cs, el, css, rest, hb, hc, h1, h2, h3, h4, h5⟩
    · exact .inl ⟨h.ρ _ _ hb, he⟩
    · exact .inr ⟨k, cap, cs, el, css, rest, h.ρ _ _ hb, by rw [hk _ _ hb rfl trivial]; exact hc, h1, h2, h3, h4.mono fun _ _ hr => Rd.ext h hr, h5⟩
  | map k v m =>
    obtain ⟨base, es, clock, hb, hc, h1, h2, h3⟩ := hr
    exact ⟨base, es, clock, h.ρ _ _ hb, by rw [hk _ _ hb rfl trivial]; exact hc, h1.mono fun _ _ hr => hr.ext h, h2, h3⟩

section
variable {C : Ctx} {E : Env} {m : Mem} {U : Nat → Prop}

/-- A world in which nothing of old has turned. -/
theorem MR.grow (h : MR C E m U) {w' : World} (hw : Blw E.w.heap.size E.w w') {im' : Nat → Prop} (h1 : ∀ k, E.imm k → im' k) (h2 : ∀ k, im' k → k < w'.heap.size) (h3 : ∀ k, im' k → k < E.w.heap.size → E.imm k) :
    MR C { E with w := w', imm := im' } m U ∧ Ext E { E with w := w', imm := im' } := by
  have hx : Ext E { E with w := w', imm := im' } := ⟨fun _ _ h => h, fun k hk => ⟨h1 k hk, hw.block k (h.immLt k hk)⟩⟩
  refine ⟨⟨?_, ?_, ?_, h.inj, h2, ?_, h.nx⟩, hx⟩
  · refine h.below.trans (hw.mono h.below.size)
  · intro b
    refine (h.blocks b).frame hx fun bt k hb hk hl => hw.block k ?_
    exact (h.own k ⟨b, bt, hl, hb, hk⟩).1
  · rintro k ⟨b, bt, hl, hb, hk⟩
    obtain ⟨o1, o2, o3⟩ := h.own k ⟨b, bt, hl, hb, hk⟩
    exact ⟨Nat.lt_of_lt_of_le o1 hw.size, o2, fun hi => o3 (h3 k hi o1)⟩
  · intro k hk hlt
    exact h.immI k (h3 k hk (Nat.lt_of_lt_of_le hlt h.below.size)) hlt
theorem MR.grow' (h : MR C E m U) {w' : World} (hw : Blw E.w.heap.size E.w w') : MR C { E with w := w' } m U ∧ Ext E { E with w := w' } :=
  h.grow hw (im' := E.imm) (fun _ h => h) (fun k hk => Nat.lt_of_lt_of_le (h.immLt k hk) hw.size) (fun _ h _ => h)

theorem MR.fresh (h : MR C E m U) {nx : Nat} (hN : ¬ U nx) : E.ρ nx = none := by
  cases hb : E.ρ nx with
  | none => rfl
  | some bt => exact absurd (h.nx nx bt hb) hN

/-- A name more. -/
def Env.name (E : Env) (b : Nat) (bt : BT) : Env := { E with ρ := fun i => if i = b then Option.some bt else E.ρ i }
theorem Ext.name (h : MR C E m U) {nx : Nat} (hN : ¬ U nx) (bt : BT) : Ext E (E.name nx bt) :=
  ⟨fun b bt' hb => by
    have : b ≠ nx := by rintro rfl; rw [h.fresh hN] at hb; cases hb
    simp [Env.name, this, hb], fun _ h => ⟨h, rfl⟩⟩
theorem frozen_same {w w' : World} {a : Addr} (h : w'.heap[a.block]? = w.heap[a.block]?) : w'.frozen? a = w.frozen? a := by simp [World.frozen?, h]
/-- A new block under a new name. -/
theorem MR.alloc (h : MR C E m U) {nx : Nat} (hN : ¬ U nx) (o : Obj) (bt : BT) (hbt : bt.base = Option.some E.w.heap.size) (y : AB) (hy : RM { (E.name nx bt) with w := E.w.alloc o } nx y) (_hly : live y := by trivial) :
    MR C { (E.name nx bt) with w := E.w.alloc o } (m.put nx y) (fun b => U b ∨ b = nx) ∧ Ext E { (E.name nx bt) with w := E.w.alloc o } := by
  have hx : Ext E { (E.name nx bt) with w := E.w.alloc o } :=
    ⟨(Ext.name h hN bt).ρ, fun k hk => ⟨hk, Below.heap_alloc _ _ _ (h.immLt k hk)⟩⟩
  have hname : ∀ b, b ≠ nx → (E.name nx bt).ρ b = E.ρ b := fun b hb => by simp [Env.name, hb]
  have hnew : (E.name nx bt).ρ nx = Option.some bt := by simp [Env.name]
  have hown : ∀ b bt' k, live (m b) → E.ρ b = Option.some bt' → bt'.base = Option.some k → k < E.w.heap.size := fun b bt' k hl hb hk => (h.own k ⟨b, bt', hl, hb, hk⟩).1
  refine ⟨⟨?_, ?_, ?_, ?_, ?_, ?_, ?_⟩, hx⟩
  · exact .of (h.below.toBelow.alloc h.below.size o)
  · intro b
    by_cases hb : b = nx
    · subst hb; rw [Mem.put_same]; exact hy
    · rw [Mem.put_ne _ _ hb]
      exact (h.blocks b).frame hx fun bt' k hb' hk hl => Below.heap_alloc _ _ _ (hown b bt' k hl hb' hk)
  · rintro k ⟨b, bt', hl', hb', hk⟩
    by_cases hb : b = nx
    · subst hb
      rw [show ({ (E.name b bt) with w := E.w.alloc o } : Env).ρ b = Option.some bt from hnew] at hb'
      cases hb'
      rw [hbt] at hk; cases hk
      exact ⟨by simp, h.below.size, fun hi => absurd (h.immLt _ hi) (Nat.lt_irrefl _)⟩
    · rw [Mem.put_ne _ _ hb] at hl'
      rw [show ({ (E.name nx bt) with w := E.w.alloc o } : Env).ρ b = E.ρ b from hname b hb] at hb'
      obtain ⟨o1, o2, o3⟩ := h.own k ⟨b, bt', hl', hb', hk⟩
      exact ⟨by simp; omega, o2, o3⟩
  · intro b b' bt1 bt2 k hl1 hl2 h1 h2 hk1 hk2
    by_cases hb : b = nx
    · by_cases hb2 : b' = nx
      · rw [hb, hb2]
      · exfalso
        subst hb
        rw [show ({ (E.name b bt) with w := E.w.alloc o } : Env).ρ b = Option.some bt from hnew] at h1
        cases h1; rw [hbt] at hk1; cases hk1
        rw [Mem.put_ne _ _ hb2] at hl2
        rw [show ({ (E.name b bt) with w := E.w.alloc o } : Env).ρ b' = E.ρ b' from hname b' hb2] at h2
        exact absurd (hown _ _ _ hl2 h2 hk2) (Nat.lt_irrefl _)
    · by_cases hb2 : b' = nx
      · exfalso
        subst hb2
        rw [show ({ (E.name b' bt) with w := E.w.alloc o } : Env).ρ b' = Option.some bt from hnew] at h2
        cases h2; rw [hbt] at hk2; cases hk2
        rw [Mem.put_ne _ _ hb] at hl1
        rw [show ({ (E.name b' bt) with w := E.w.alloc o } : Env).ρ b = E.ρ b from hname b hb] at h1
        exact absurd (hown _ _ _ hl1 h1 hk1) (Nat.lt_irrefl _)
      · rw [Mem.put_ne _ _ hb] at hl1
        rw [Mem.put_ne _ _ hb2] at hl2
        rw [show ({ (E.name nx bt) with w := E.w.alloc o } : Env).ρ b = E.ρ b from hname b hb] at h1
        rw [show ({ (E.name nx bt) with w := E.w.alloc o } : Env).ρ b' = E.ρ b' from hname b' hb2] at h2
        exact h.inj b b' bt1 bt2 k hl1 hl2 h1 h2 hk1 hk2
  · intro k hk
    have := h.immLt k hk
    simp; omega
  · exact h.immI
  · intro b bt' hb'
    by_cases hb : b = nx
    · exact .inr hb
    · rw [show ({ (E.name nx bt) with w := E.w.alloc o } : Env).ρ b = E.ρ b from hname b hb] at hb'
      exact .inl (h.nx b bt' hb')

/-- A block's content is another one. -/
theorem MR.write (h : MR C E m U) {b k : Nat} {bt : BT} (hl : live (m b)) (hb : E.ρ b = Option.some bt) (hk : bt.base = Option.some k) {w' : World}
    (hos : w'.os = E.w.os) (htape : w'.tape = E.w.tape) (hout : w'.output = E.w.output) (hsz : w'.heap.size = E.w.heap.size) (hoth : ∀ j, j ≠ k → w'.heap[j]? = E.w.heap[j]?)
    (y : AB) (hy : Ext E { E with w := w' } → RM { E with w := w' } b y) (_hly : live y := by trivial) :
    MR C { E with w := w' } (m.put b y) U ∧ Ext E { E with w := w' } := by
  obtain ⟨ho1, ho2, ho3⟩ := h.own k ⟨b, bt, hl, hb, hk⟩
  have hx : Ext E { E with w := w' } := ⟨fun _ _ h => h, fun j hj => ⟨hj, hoth j (fun e => ho3 (e ▸ hj))⟩⟩
  have hlive : ∀ i, live ((m.put b y) i) → live (m i) := fun i hi => by
    by_cases hib : i = b
    · subst hib; exact hl
    · rwa [Mem.put_ne _ _ hib] at hi
  refine ⟨⟨?_, ?_, ?_, ?_, ?_, h.immI, h.nx⟩, hx⟩
  · exact h.below.trans (.of ⟨hos, htape, hout, by rw [hsz]; exact Nat.le_refl _, fun j hj => hoth j (by omega)⟩)
  · intro i
    by_cases hib : i = b
    · subst hib; rw [Mem.put_same]; exact hy hx
    · rw [Mem.put_ne _ _ hib]
      refine (h.blocks i).frame hx fun bt' j hb' hj hli => hoth j fun e => hib ?_
      subst e
      exact h.inj i b bt' bt j hli hl hb' hb hj hk
  · rintro j ⟨i, bt', hli, hb', hj⟩
    have := h.own j ⟨i, bt', hlive i hli, hb', hj⟩
    exact ⟨by simpa [hsz] using this.1, this.2⟩
  · intro i i' b1 b2 j h1 h2
    exact h.inj i i' b1 b2 j (hlive i h1) (hlive i' h2)
  · intro j hj
    have := h.immLt j hj
    simpa [hsz] using this

/-- A row is let go: from now on its block is one of those that nobody writes. -/
theorem MR.kill1 (h : MR C E m U) (b : Nat) :
    ∃ im, MR C { E with imm := im } (m.put b .dead) U ∧ Ext E { E with imm := im } ∧ (∀ bt k, live (m b) → E.ρ b = Option.some bt → bt.base = Option.some k → im k) ∧ ∀ k, im k → E.imm k ∨ owns E m k := by
  refine ⟨fun k => E.imm k ∨ ∃ bt, live (m b) ∧ E.ρ b = Option.some bt ∧ bt.base = Option.some k, ?_, ?_, ?_, ?_⟩
  · have hx : Ext E { E with imm := fun k => E.imm k ∨ ∃ bt, live (m b) ∧ E.ρ b = Option.some bt ∧ bt.base = Option.some k } := ⟨fun _ _ h => h, fun k hk => ⟨.inl hk, rfl⟩⟩
    have hlive : ∀ i, live ((m.put b .dead) i) → i ≠ b ∧ live (m i) := fun i hi => by
      by_cases hib : i = b
      · subst hib; rw [Mem.put_same] at hi; exact hi.elim
      · rw [Mem.put_ne _ _ hib] at hi; exact ⟨hib, hi⟩
    refine ⟨h.below, ?_, ?_, ?_, ?_, ?_, h.nx⟩
    · intro i
      by_cases hib : i = b
      · subst hib; rw [Mem.put_same]; trivial
      · rw [Mem.put_ne _ _ hib]; exact (h.blocks i).frame hx fun _ _ _ _ _ => rfl
    · rintro k ⟨i, bt, hli, hb, hk⟩
      obtain ⟨hne, hli⟩ := hlive i hli
      obtain ⟨o1, o2, o3⟩ := h.own k ⟨i, bt, hli, hb, hk⟩
      refine ⟨o1, o2, ?_⟩
      rintro (hi | ⟨bt', hl', hb', hk'⟩)
      · exact o3 hi
      · exact hne (h.inj i b bt bt' k hli hl' hb hb' hk hk')
    · intro i i' b1 b2 j h1 h2
      exact h.inj i i' b1 b2 j (hlive i h1).2 (hlive i' h2).2
    · rintro k (hk | ⟨bt, hl, hb, hk⟩)
      · exact h.immLt k hk
      · exact (h.own k ⟨b, bt, hl, hb, hk⟩).1
    · rintro k (hk | ⟨bt, hl, hb, hk⟩) hlt
      · exact h.immI k hk hlt
      · have := (h.own k ⟨b, bt, hl, hb, hk⟩).2.1; omega
  · exact ⟨fun _ _ h => h, fun k hk => ⟨.inl hk, rfl⟩⟩
  · intro bt k hl hb hk
    exact .inr ⟨bt, hl, hb, hk⟩
  · rintro k (hk | ⟨bt, hl, hb, hk⟩)
    · exact .inl hk
    · exact .inr ⟨b, bt, hl, hb, hk⟩
end
theorem frz_dead (x : AB) : ¬ live (frzAB x) := by cases x <;> exact fun h => h
theorem kill_live : ∀ (v : AV) (m : Mem) (b : Nat), live ((kill v m) b) → live (m b) := by
  intro v
  induction v with
  | sl b' =>
    intro m b hl
    by_cases hbb : b = b'
    · subst hbb; simp only [kill, Mem.put_same] at hl; exact (frz_dead _ hl).elim
    · simpa [kill, Mem.put_ne _ _ hbb] using hl
  | ssl b' lo hi =>
    intro m b hl
    by_cases hbb : b = b'
    · subst hbb; simp only [kill, Mem.put_same] at hl; exact (frz_dead _ hl).elim
    · simpa [kill, Mem.put_ne _ _ hbb] using hl
  | agv s l ih => intro m b; exact ih m b
  | cons a l iha ihl => intro m b hl; exact iha m b (ihl _ b hl)
  | _ => intro m b hl; exact hl
theorem kill_owns {E : Env} {m : Mem} {v : AV} {j : Nat} (h : owns E (kill v m) j) : owns E m j := by
  obtain ⟨b, bt, hl, h⟩ := h; exact ⟨b, bt, kill_live v m b hl, h⟩
theorem killL_live : ∀ (vs : List AV) (m : Mem) (b : Nat), live ((killL vs m) b) → live (m b)
  | [], _, _, h => h
  | v :: vs, m, b, h => kill_live v m b (killL_live vs _ b h)
theorem killL_owns {E : Env} {m : Mem} {vs : List AV} {j : Nat} (h : owns E (killL vs m) j) : owns E m j := by
  obtain ⟨b, bt, hl, h⟩ := h; exact ⟨b, bt, killL_live vs m b hl, h⟩

/-! ### Plain data out of values -/
theorem cast?_some {t u : Ty} {x : t.den} {y : u.den} (h : cast? t u x = some y) : ∃ e : t = u, e ▸ x = y := by
  unfold cast? at h
  split at h
  · rename_i he; cases h; exact ⟨Ty.eq_of_eqb he, rfl⟩
  · cases h
theorem cast?_self (t : Ty) (x : t.den) : cast? t t x = some x := by
  unfold cast?
  split
  · rfl
  · rename_i he; simp [Ty.eqb_self] at he
theorem Rd.nolist {w w' : World} {im im' : Nat → Prop} : ∀ (t : Ty) (x : t.den) (cs : List Value), t.lists = false → Rd w im t x cs → Rd w' im' t x cs := by
  refine Ty.ind ?_ ?_ ?_ ?_ ?_ ?_ ?_ ?_
  · intro k x cs _ h; rw [Rd.int] at *; exact h
  · intro x cs _ h; rw [Rd.bool] at *; exact h
  · intro x cs _ h; rw [Rd.str] at *; exact h
  · intro x cs _ h; rw [Rd.unit] at *; exact h
  · intro a b iha ihb x cs hl h
    simp [Ty.lists] at hl
    rw [Rd.prod] at *; obtain ⟨c, d, e, h1, h2⟩ := h; exact ⟨c, d, e, iha _ _ hl.1 h1, ihb _ _ hl.2 h2⟩
  · intro n t ih x cs hl h
    simp [Ty.lists] at hl
    rw [Rd.arr] at *; obtain ⟨css, e, h⟩ := h; exact ⟨css, e, h.mono fun y c => ih y c hl⟩
  · intro t _ x cs hl; simp [Ty.lists] at hl
  · intro s ih x cs hl h
    have : s.body.lists = false := by cases s <;> simp_all [Ty.lists, St.body]
    rw [Rd.st] at *; exact ih _ _ this h

/-- The blocks of rows that a value has. -/
def rowsOf : AV → Nat → Prop
  | .sl b, i => i = b
  | .ssl b _ _, i => i = b
  | .asl b _, i => i = b
  | .agv _ l, i => rowsOf l i
  | .cons a l, i => rowsOf a i ∨ rowsOf l i
  | _, _ => False
/-- A row's elements, read where it lies. -/
theorem slab_Rd {C : Ctx} {E : Env} {m : Mem} {U : Nat → Prop} (h : MR C E m U) {b : Nat} {t : Ty} {xs : List t.den} (hm : m b = .slab t xs) {cs : List Value} (hc : RC E (.sl b) cs) {im : Nat → Prop}
    (h1 : ∀ k, E.imm k → im k) (h2 : ∀ bt k, E.ρ b = some bt → bt.base = some k → im k) : Rd E.w im (.list t) xs cs := by
  have hb := h.blocks b
  rw [hm] at hb
  obtain ⟨ht, hb⟩ := hb
  rw [Rd.list]
  refine ⟨ht, ?_⟩
  rcases hb with ⟨hb, he⟩ | ⟨k, cap, cells, el, css, rest, hb, hcell, hsz, hlen, hcap, hall, hflat⟩
  · rcases hc with ⟨t', hb', rfl⟩ | ⟨k, t', cap, len, hb', rfl⟩
    · exact .inl ⟨rfl, he⟩
    · rw [hb] at hb'; cases hb'
  · rcases hc with ⟨t', hb', rfl⟩ | ⟨k', t', cap', len, hb', rfl⟩
    · rw [hb] at hb'; cases hb'
    · rw [hb] at hb'
      cases hb'
      refine .inr ⟨⟨k, 0, none⟩, cap, css, rfl, fun _ => rfl, hlen, hcap, hall.mono fun y c hr => Rd.mono (fun j hj => ⟨h1 j hj, rfl⟩) _ _ _ hr, fun _ => h2 _ k hb rfl, fun j v hv => ?_⟩
      have : cells[j]? = some v := by
        rw [← Array.getElem?_toList, hflat, List.getElem?_append_left (List.getElem?_eq_some_iff.1 hv).1]
        exact hv
      simp [World.cell?, hcell, this]
/-- The cells of a row's slice are told by where it lies. -/
theorem sl_one {E : Env} {b : Nat} {c d : List Value} (h : RC E (.sl b) c) (h' : RC E (.sl b) d) : c = d := by
  rcases h with ⟨t, hb, rfl⟩ | ⟨k, t, cap, len, hb, rfl⟩ <;> rcases h' with ⟨t', hb', rfl⟩ | ⟨k', t', cap', len', hb', rfl⟩
  · rfl
  · rw [hb] at hb'; cases hb'
  · rw [hb] at hb'; cases hb'
  · rw [hb] at hb'; cases hb'; rfl
/-- A part of a row. -/
theorem ssl_Rd {E : Env} {w : World} {im : Nat → Prop} {b : Nat} {lo hi : Int} {t : Ty} {bt : BT} {xs : List t.den} {c d : List Value} (hb : E.ρ b = some bt) (ht : bt.elt = some t) (h1 : RC E (.sl b) c) (h2 : Rd w im (.list t) xs c) (h : RC E (.ssl b lo hi) d) :
    Rd w im (.list t) (cutL lo hi xs) d := by
  obtain ⟨h3, h4, h⟩ := h
  rw [cutL_eq h3]
  rw [Rd.list] at h2 ⊢
  obtain ⟨hby, h2⟩ := h2
  have hlc : ((xs.take hi.toNat).drop lo.toNat).length ≤ xs.length := by simp; omega
  refine ⟨Nat.le_trans (Nat.mul_le_mul_right _ hlc) hby, ?_⟩
  rcases h with ⟨t', hb', hh, rfl⟩ | ⟨k, t', cap, len, a, cp, hb', hlen, hc1, hc2, rfl, ha⟩
  · left
    have : hi.toNat = 0 := by omega
    simp [this]
  · rw [hb] at hb'; cases hb'
    cases ht
    rcases h1 with ⟨t0, hb0, _⟩ | ⟨k0, t0, cap0, len0, hb0, rfl⟩
    · rw [hb] at hb0; cases hb0
    · rw [hb] at hb0; cases hb0
      rcases h2 with ⟨hh, _⟩ | ⟨a0, cp0, css, he, _, _, _, hall, him, hcell⟩
      · cases hh
      · simp only [List.cons.injEq, Value.slice.injEq, Option.some.injEq, and_true] at he
        obtain ⟨ha0, hle, _⟩ := he
        subst ha0; subst hle
        have hcl : ((xs.take hi.toNat).drop lo.toNat).length = (hi - lo).toNat := by simp; omega
        refine .inr ⟨a, cp, (css.take hi.toNat).drop lo.toNat, by rw [show List.length ((xs.take hi.toNat).drop lo.toNat) = (hi - lo).toNat from hcl], ?_, by omega, hc2, (hall.take hi.toNat).drop lo.toNat, ?_, ?_⟩
        · intro hne
          have : lo < hi := by
            apply Classical.byContradiction
            intro hn
            have : ((xs.take hi.toNat).drop lo.toNat).length = 0 := by omega
            exact hne (List.length_eq_zero_iff.1 this)
          rw [ha this]
        · intro hne
          have hlt : lo < hi := by
            apply Classical.byContradiction
            intro hn
            have : ((xs.take hi.toNat).drop lo.toNat).length = 0 := by omega
            exact hne (List.length_eq_zero_iff.1 this)
          rw [ha hlt]
          exact him (by rintro rfl; simp at hlen; omega)
        · intro j v hv
          have hjl := (List.getElem?_eq_some_iff.1 hv).1
          have hlt : lo < hi := by
            apply Classical.byContradiction
            intro hn
            have : ((css.take hi.toNat).drop lo.toNat).length = 0 := by simp; omega
            rw [List.length_eq_zero_iff.1 this] at hjl
            simp at hjl
          rw [ha hlt]
          have hfl : ((css.take hi.toNat).drop lo.toNat).flatten = (css.flatten.take (hi.toNat * t.size)).drop (lo.toNat * t.size) := by
            rw [flatten_drop (n := t.size) _ (fun c hc => hall.lens c (List.mem_of_mem_take hc)), flatten_take (n := t.size) _ hall.lens]
          rw [hfl, List.getElem?_drop] at hv
          have h5 : css.flatten[lo.toNat * t.size + j]? = some v := by
            have hlt2 := (List.getElem?_eq_some_iff.1 hv).1
            rw [List.length_take] at hlt2
            rw [List.getElem?_take_of_lt (by omega)] at hv
            exact hv
          have := hcell _ _ h5
          simpa using this
/-- A row that was let go, read where it lies. -/
theorem frz_Rd {C : Ctx} {E : Env} {m : Mem} {U : Nat → Prop} (h : MR C E m U) {b : Nat} {t : Ty} {xs : List t.den} (hm : m b = .frz t xs) {cs : List Value} (hc : RC E (.sl b) cs) : Rd E.w E.imm (.list t) xs cs := by
  have hb := h.blocks b
  rw [hm] at hb
  obtain ⟨bt, c, _, _, h1, h2⟩ := hb
  rw [sl_one hc h1]; exact h2
theorem slab_elt {C : Ctx} {E : Env} {m : Mem} {U : Nat → Prop} (h : MR C E m U) {b : Nat} {t : Ty} {xs : List t.den} (hm : m b = .slab t xs) : ∃ bt c, E.ρ b = some bt ∧ bt.elt = some t ∧ RC E (.sl b) c := by
  have hb := h.blocks b
  rw [hm] at hb
  obtain ⟨_, hb⟩ := hb
  rcases hb with ⟨hb, _⟩ | ⟨k, cap, cells, el, css, rest, hb, _⟩
  · exact ⟨_, _, hb, rfl, .inl ⟨t, hb, rfl⟩⟩
  · exact ⟨_, _, hb, rfl, .inr ⟨k, t, cap, _, hb, rfl⟩⟩
theorem toPure_RC {C : Ctx} {E : Env} {m : Mem} {U : Nat → Prop} (h : MR C E m U) {im : Nat → Prop} (h1 : ∀ k, E.imm k → im k) : ∀ (v : AV) (u : Ty) (d : u.den) (cs : List Value), toPure m v u = some d → RC E v cs →
    (∀ b bt k, rowsOf v b → live (m b) → E.ρ b = some bt → bt.base = some k → im k) → Rd E.w im u d cs := by
  intro v
  induction v with
  | val t x =>
    intro u d cs hp hr _
    obtain ⟨e, hx⟩ := cast?_some (show cast? t u x = some d by simpa [toPure] using hp)
    subst e; subst hx
    exact Rd.mono (fun j hj => ⟨h1 j hj, rfl⟩) _ _ _ hr
  | nils =>
    intro u d cs hp hr _
    cases u <;> simp [toPure] at hp
    subst hp
    rw [Rd.list]
    exact ⟨by simp, .inl ⟨hr, rfl⟩⟩
  | sl b =>
    intro u d cs hp hr hk
    simp only [toPure] at hp
    split at hp
    · rename_i e xs hm
      obtain ⟨e1, hx⟩ := cast?_some (show cast? (.list e) u xs = some d from hp)
      subst e1; subst hx
      exact slab_Rd h hm hr h1 fun bt k hb hbk => hk b bt k rfl (by rw [hm]; trivial) hb hbk
    · rename_i e xs hm
      obtain ⟨e1, hx⟩ := cast?_some (show cast? (.list e) u xs = some d from hp)
      subst e1; subst hx
      exact Rd.mono (fun j hj => ⟨h1 j hj, rfl⟩) _ _ _ (frz_Rd h hm hr)
    · cases hp
  | ssl b lo hi =>
    intro u d cs hp hr hk
    simp only [toPure] at hp
    split at hp
    · rename_i e xs hm
      obtain ⟨e1, hx⟩ := cast?_some (show cast? (.list e) u (cutL lo hi xs) = some d from hp)
      subst e1; subst hx
      obtain ⟨bt, c, g1, g2, g3⟩ := slab_elt h hm
      exact ssl_Rd g1 g2 g3 (slab_Rd h hm g3 h1 fun bt k hb hbk => hk b bt k rfl (by rw [hm]; trivial) hb hbk) hr
    · rename_i e xs hm
      obtain ⟨e1, hx⟩ := cast?_some (show cast? (.list e) u (cutL lo hi xs) = some d from hp)
      subst e1; subst hx
      have hb := h.blocks b
      rw [hm] at hb
      obtain ⟨bt, c, g1, g2, g3, g4⟩ := hb
      exact Rd.mono (fun j hj => ⟨h1 j hj, rfl⟩) _ _ _ (ssl_Rd g1 g2 g3 g4 hr)
    · cases hp
  | asl b p =>
    intro u d cs hp hr hk
    simp only [toPure] at hp
    split at hp
    · rename_i n e x hm
      obtain ⟨e1, hx⟩ := cast?_some (show cast? (.list e) u x.toList = some d from hp)
      subst e1; subst hx
      obtain ⟨k, t, n', u', o, hb, hty, hin, hb1, hb2, rfl⟩ := hr
      cases hmb : m b with
      | var t2 v2 =>
        rw [hmb] at hm
        have hbl := h.blocks b
        rw [hmb] at hbl
        obtain ⟨hh, k2, cells, el, hq2, hcell, hrc⟩ := hbl
        rw [hb] at hq2; cases hq2
        obtain ⟨hy, c, d, e', hcs, hcl, hrd⟩ := load_sound p _ _ _ _ _ _ hh hrc hty hin hm
        have := has_val hy
        cases this
        have hrd : Rd E.w E.imm (.arr n e) x d := hrd
        rw [Rd.arr] at hrd
        obtain ⟨css, rfl, hall⟩ := hrd
        rw [Rd.list]
        refine ⟨?_, .inr ⟨⟨k, o, none⟩, n, css, ?_, fun _ => rfl, ?_, ?_, hall.mono fun y c hr => Rd.mono (fun j hj => ⟨h1 j hj, rfl⟩) _ _ _ hr, fun _ => hk b _ k rfl (by rw [hmb]; trivial) hb rfl, fun j v hv => ?_⟩⟩
        · simpa using hb1
        · simp
        · simp
        · exact hb2
        · have : cells[o + j]? = some v := by
            rw [← Array.getElem?_toList, hcs, ← hcl, List.append_assoc, List.getElem?_append_right (by omega), Nat.add_sub_cancel_left, List.getElem?_append_left (List.getElem?_eq_some_iff.1 hv).1]
            exact hv
          simp [World.cell?, hcell, this]
      | slab t2 xs2 =>
        have hbl := h.blocks b
        rw [hmb] at hbl
        obtain ⟨_, hbl⟩ := hbl
        rcases hbl with ⟨hb2, _⟩ | ⟨_, _, _, _, _, _, hb2, _⟩ <;> (rw [hb] at hb2; cases hb2)
      | _ => rw [hmb] at hm; simp [AB.load] at hm
    · cases hp
  | agv s l ih =>
    intro u d cs hp hr hk
    cases u <;> simp only [toPure] at hp <;> try (cases hp; done)
    rename_i s'
    split at hp
    · rename_i y hy
      obtain ⟨e1, hx⟩ := cast?_some hp
      cases e1
      have hx : s.pack y = d := hx
      subst hx
      rw [Rd.st, St.unpack_pack]
      exact ih _ _ _ hy hr fun b bt k hb => hk b bt k hb
    · cases hp
  | nil =>
    intro u d cs hp hr _
    cases u <;> simp [toPure] at hp
    rw [Rd.unit]; exact hr
  | cons a l iha ihl =>
    intro u d cs hp hr hk
    cases u <;> simp only [toPure] at hp <;> try (cases hp; done)
    obtain ⟨c, e, rfl, hra, hrl⟩ := hr
    split at hp
    · rename_i p q hpa hpl
      cases hp
      rw [Rd.prod]
      exact ⟨c, e, rfl, iha _ _ _ hpa hra fun b bt k hb => hk b bt k (.inl hb), ihl _ _ _ hpl hrl fun b bt k hb => hk b bt k (.inr hb)⟩
    · cases hp
  | _ => intro u d cs hp; simp [toPure] at hp
theorem toPure_agg {m : Mem} {v : AV} {u : Ty} {d : u.den} (h : toPure m v u = some d) (h1 : v ≠ .nil) (h2 : ∀ a l, v ≠ .cons a l) : v.isAgg = u.agg := by
  cases v with
  | val t x => obtain ⟨e, _⟩ := cast?_some (show cast? t u x = some d by simpa [toPure] using h); subst e; rfl
  | nils => cases u <;> simp [toPure] at h; rfl
  | sl b =>
    simp only [toPure] at h
    split at h
    · obtain ⟨e1, _⟩ := cast?_some (show cast? (.list _) u _ = some d from h); subst e1; rfl
    · obtain ⟨e1, _⟩ := cast?_some (show cast? (.list _) u _ = some d from h); subst e1; rfl
    · cases h
  | ssl b lo hi =>
    simp only [toPure] at h
    split at h
    · obtain ⟨e1, _⟩ := cast?_some (show cast? (.list _) u _ = some d from h); subst e1; rfl
    · obtain ⟨e1, _⟩ := cast?_some (show cast? (.list _) u _ = some d from h); subst e1; rfl
    · cases h
  | asl b p =>
    simp only [toPure] at h
    split at h
    · obtain ⟨e1, _⟩ := cast?_some (show cast? (.list _) u _ = some d from h); subst e1; rfl
    · cases h
  | agv s l => cases u <;> simp [toPure] at h; rfl
  | nil => exact absurd rfl h1
  | cons a l => exact absurd rfl (h2 _ _)
  | _ => simp [toPure] at h

/-- A row is let go, and stays to be read. -/
theorem MR.killF {C : Ctx} {E : Env} {m : Mem} {U : Nat → Prop} (h : MR C E m U) (b : Nat) :
    ∃ im, MR C { E with imm := im } (m.put b (frzAB (m b))) U ∧ Ext E { E with imm := im } ∧ (∀ bt k, live (m b) → E.ρ b = some bt → bt.base = some k → im k) ∧ ∀ k, im k → E.imm k ∨ owns E m k := by
  obtain ⟨im, h1, h2, h3, h4⟩ := h.kill1 b
  refine ⟨im, ?_, h2, h3, h4⟩
  have hl : ∀ i, live ((m.put b (frzAB (m b))) i) → live ((m.put b .dead) i) := fun i hi => by
    by_cases hib : i = b
    · subst hib; rw [Mem.put_same] at hi; exact (frz_dead _ hi).elim
    · rwa [Mem.put_ne _ _ hib] at hi ⊢
  refine ⟨h1.below, fun i => ?_, ?_, fun i i' b1 b2 k g1 g2 => h1.inj i i' b1 b2 k (hl i g1) (hl i' g2), h1.immLt, h1.immI, h1.nx⟩
  · by_cases hib : i = b
    · subst hib
      rw [Mem.put_same]
      cases hm : m i with
      | slab t xs =>
        obtain ⟨bt, c, g1, g2, g3⟩ := slab_elt h hm
        exact ⟨bt, c, g1, g2, g3.ext h2, slab_Rd h hm g3 (fun k hk => (h2.imm k hk).1) fun bt k hb hk => h3 bt k (by rw [hm]; trivial) hb hk⟩
      | frz t xs =>
        have hb := h.blocks i
        rw [hm] at hb
        exact hb.frame h2 fun _ _ _ _ _ => rfl
      | _ => trivial
    · rw [Mem.put_ne _ _ hib]
      have := h1.blocks i
      rwa [Mem.put_ne _ _ hib] at this
  · rintro k ⟨i, bt, g1, g2, g3⟩
    exact h1.own k ⟨i, bt, hl i g1, g2, g3⟩

/-- All rows of a value let go. -/
theorem kill_MR {C : Ctx} : ∀ (v : AV) {E : Env} {m : Mem} {U : Nat → Prop}, MR C E m U → ∃ im, MR C { E with imm := im } (kill v m) U ∧ Ext E { E with imm := im } ∧
    (letsGo v = true → ∀ b bt k, rowsOf v b → live (m b) → E.ρ b = some bt → bt.base = some k → im k) ∧ ∀ k, im k → E.imm k ∨ owns E m k := by
  intro v
  induction v with
  | sl b =>
    intro E m U h
    obtain ⟨im, h1, h2, h3, h4⟩ := h.killF b
    exact ⟨im, h1, h2, fun _ b' bt k hb => by cases hb; exact h3 bt k, h4⟩
  | ssl b lo hi =>
    intro E m U h
    obtain ⟨im, h1, h2, h3, h4⟩ := h.killF b
    exact ⟨im, h1, h2, fun _ b' bt k hb => by cases hb; exact h3 bt k, h4⟩
  | asl b p => intro E m U h; exact ⟨E.imm, h, Ext.refl _, (fun hg => by simp [letsGo] at hg), fun _ h => .inl h⟩
  | agv s l ih => intro E m U h; exact ih h
  | cons a l iha ihl =>
    intro E m U h
    obtain ⟨im1, h1, h2, h3, g1⟩ := iha h
    obtain ⟨im2, h4, h5, h6, g2⟩ := ihl h1
    refine ⟨im2, h4, h2.trans h5, fun hg b bt k hb hl hbt hk => ?_, fun k hk => (g2 k hk).elim (g1 k) (fun ho => .inr (kill_owns (E := E) ho))⟩
    simp [letsGo] at hg
    rcases hb with hb | hb
    · exact (h5.imm k (h3 hg.1 b bt k hb hl hbt hk)).1
    · by_cases hl2 : live ((kill a m) b)
      · exact h6 hg.2 b bt k hb hl2 hbt hk
      · -- it went with the first part
        have : ∀ (v : AV) (m : Mem) (b : Nat), live (m b) → ¬ live ((kill v m) b) → rowsOf v b := by
          intro v
          induction v with
          | sl b' =>
            intro m b hl hn
            by_cases hbb : b = b'
            · exact hbb
            · exact absurd (by simpa [kill, Mem.put_ne _ _ hbb] using hl) hn
          | ssl b' lo hi =>
            intro m b hl hn
            by_cases hbb : b = b'
            · exact hbb
            · exact absurd (by simpa [kill, Mem.put_ne _ _ hbb] using hl) hn
          | agv s l ih => intro m b; exact ih m b
          | cons a l iha ihl =>
            intro m b hl hn
            by_cases h1 : live ((kill a m) b)
            · exact .inr (ihl _ b h1 hn)
            · exact .inl (iha m b hl h1)
          | _ => intro m b hl hn; exact absurd hl hn
        exact (h5.imm k (h3 hg.1 b bt k (this a m b hl hl2) hl hbt hk)).1
  | _ => intro E m U h; exact ⟨E.imm, h, Ext.refl _, (fun _ b bt k hb => hb.elim), fun _ h => .inl h⟩
theorem killL_MR {C : Ctx} : ∀ (vs : List AV) {E : Env} {m : Mem} {U : Nat → Prop}, MR C E m U → ∃ im, MR C { E with imm := im } (killL vs m) U ∧ Ext E { E with imm := im } ∧
    (vs.all letsGo = true → ∀ v ∈ vs, ∀ b bt k, rowsOf v b → live (m b) → E.ρ b = some bt → bt.base = some k → im k) ∧ ∀ k, im k → E.imm k ∨ owns E m k
  | [], E, m, U, h => ⟨E.imm, h, Ext.refl _, (fun _ v hv => by simp at hv), fun _ h => .inl h⟩
  | v :: vs, E, m, U, h => by
    obtain ⟨im1, h1, h2, h3, g1⟩ := kill_MR v h
    obtain ⟨im2, h4, h5, h6, g2⟩ := killL_MR vs h1
    refine ⟨im2, h4, h2.trans h5, fun hg v' hv b bt k hb hl hbt hk => ?_, fun k hk => (g2 k hk).elim (g1 k) (fun ho => .inr (kill_owns (E := E) ho))⟩
    simp at hg
    have gone : ∀ (v : AV) (m : Mem) (b : Nat), live (m b) → ¬ live ((kill v m) b) → rowsOf v b := by
      intro v
      induction v with
      | sl b' =>
        intro m b hl hn
        by_cases hbb : b = b'
        · exact hbb
        · exact absurd (by simpa [kill, Mem.put_ne _ _ hbb] using hl) hn
      | ssl b' lo hi =>
        intro m b hl hn
        by_cases hbb : b = b'
        · exact hbb
        · exact absurd (by simpa [kill, Mem.put_ne _ _ hbb] using hl) hn
      | agv s l ih => intro m b; exact ih m b
      | cons a l iha ihl =>
        intro m b hl hn
        by_cases h1 : live ((kill a m) b)
        · exact .inr (ihl _ b h1 hn)
        · exact .inl (iha m b hl h1)
      | _ => intro m b hl hn; exact absurd hl hn
    by_cases hl2 : live ((kill v m) b)
    · rcases List.mem_cons.1 hv with rfl | hv
      · exact (h5.imm k (h3 hg.1 b bt k hb hl hbt hk)).1
      · exact h6 (by simpa using hg.2) v' hv b bt k hb hl2 hbt hk
    · exact (h5.imm k (h3 hg.1 b bt k (gone v m b hl hl2) hl hbt hk)).1
end Go.Co
end

section
namespace Go.Co
open Go.RowKit

theorem RV.cells {E : Env} {v : AV} {x : Value} (h : RV E v x) (h1 : v ≠ .junk) (h2 : ∀ l, v ≠ .tup l) : ∃ cs, x = pk v.isAgg cs ∧ RC E v cs := by
  cases v with
  | junk => exact absurd rfl h1
  | tup l => exact absurd rfl (h2 _)
  | _ => exact h
theorem RV.of {E : Env} {v : AV} {cs : List Value} (h : RC E v cs) : RV E v (pk v.isAgg cs) := by
  cases v with
  | junk => exact h.elim
  | tup l => exact h.elim
  | _ => exact ⟨cs, rfl, h⟩
theorem RV.val {E : Env} {t : Ty} {x : t.den} {v : Value} : RV E (.val t x) v ↔ ∃ cs, v = pk t.agg cs ∧ Rd E.w E.imm t x cs := Iff.rfl
theorem RV.int {E : Env} {k : IntKind} {n : Int} {v : Value} (h : RV E (.val (.int k) n) v) : v = .int k n ∧ inKind k n = true := by
  obtain ⟨cs, rfl, h⟩ := h; obtain ⟨rfl, h2⟩ := Rd.int.1 h; exact ⟨rfl, h2⟩
theorem RV.mkInt {E : Env} {k : IntKind} {n : Int} (h : inKind k n = true) : RV E (.val (.int k) n) (.int k n) := ⟨[.int k n], rfl, Rd.int.2 ⟨rfl, h⟩⟩
theorem RV.bool {E : Env} {b : Bool} {v : Value} (h : RV E (.val .bool b) v) : v = .bool b := by
  obtain ⟨cs, rfl, h⟩ := h; have h := Rd.bool.1 h; subst h; rfl
theorem RV.mkBool {E : Env} {b : Bool} : RV E (.val .bool b) (.bool b) := ⟨[.bool b], rfl, Rd.bool.2 rfl⟩
theorem RV.str {E : Env} {s : ByteArray} {v : Value} (h : RV E (.val .str s) v) : v = .string s ∧ s.size ≤ top := by
  obtain ⟨cs, rfl, h⟩ := h; obtain ⟨rfl, h2⟩ := Rd.str.1 h; exact ⟨rfl, h2⟩
theorem RV.mkStr {E : Env} {s : ByteArray} (h : s.size ≤ top) : RV E (.val .str s) (.string s) := ⟨[.string s], rfl, Rd.str.2 ⟨rfl, h⟩⟩
theorem RV.ptr {E : Env} {b : Nat} {p : List PS} {v : Value} (h : RV E (.ptr b p) v) : ∃ bt k u o, E.ρ b = some bt ∧ bt.base = some k ∧ partAt bt p u o ∧ v = .pointer (some ⟨k, o, none⟩) := by
  obtain ⟨cs, rfl, bt, k, u, o, h1, h2, h3, rfl⟩ := h; exact ⟨bt, k, u, o, h1, h2, h3, rfl⟩
theorem RV.mkPtr {E : Env} {b : Nat} {p : List PS} {bt : BT} {k : Nat} {u : Ty} {o : Nat} (h1 : E.ρ b = some bt) (h2 : bt.base = some k) (h3 : partAt bt p u o) : RV E (.ptr b p) (.pointer (some ⟨k, o, none⟩)) :=
  ⟨_, rfl, bt, k, u, o, h1, h2, h3, rfl⟩
theorem RV.eptr {E : Env} {t : Ty} {x : t.den} {v : Value} (h : RV E (.eptr t x) v) : ∃ a c, v = .pointer (some a) ∧ a.spot = none ∧ E.imm a.block ∧ Rd E.w E.imm t x c ∧ ∀ j v, c[j]? = some v → E.w.cell? ⟨a.block, a.off + j, none⟩ = some v := by
  obtain ⟨cs, rfl, a, c, rfl, h⟩ := h; exact ⟨a, c, rfl, h⟩

theorem RV.mkEptr {E : Env} {t : Ty} {x : t.den} {a : Addr} {c : List Value} (h1 : a.spot = none) (h2 : E.imm a.block) (h3 : Rd E.w E.imm t x c) (h4 : ∀ j v, c[j]? = some v → E.w.cell? ⟨a.block, a.off + j, none⟩ = some v) :
    RV E (.eptr t x) (.pointer (some a)) := ⟨_, rfl, a, c, rfl, h1, h2, h3, h4⟩
theorem cv_ok {E : Env} (v : Value) : RV E (cv v) v := by
  unfold cv
  split
  · exact RV.mkBool
  · split
    · exact RV.mkInt (by assumption)
    · trivial
  · split
    · rename_i h; exact RV.mkStr (Nat.le_of_ble_eq_true h)
    · trivial
  · exact ⟨_, rfl, rfl⟩
  · exact ⟨_, rfl, rfl⟩
  · trivial
/-- The operands of a frame. -/
theorem opv_ok {E : Env} {s : Nat → AV} {a : Act} (h : ∀ i, RV E (s i) (a.tmps.getD i undef)) (x : Operand) : RV E (opv s x) (a.eval x) := by
  cases x with
  | tmp t => exact h t
  | const v => exact cv_ok v
  | global g => trivial
  | func f => exact ⟨_, rfl, [], trivial, rfl⟩

theorem idx_lt {i : Int} {n : Nat} (h : 0 ≤ i ∧ i < (n : Int)) : i.toNat < n := by omega
theorem addr_add (b o n : Nat) : (⟨b, o, none⟩ : Addr).add n = ⟨b, o + n, none⟩ := by unfold Addr.add; split <;> simp_all
theorem addr_add' {a : Addr} (h : a.spot = none) (n : Nat) : a.add n = ⟨a.block, a.off + n, none⟩ := by cases a; simp at h; subst h; exact addr_add _ _ _

/-- A block's part, told by a pointer. -/
theorem ptr_block {C : Ctx} {E : Env} {m : Mem} {U : Nat → Prop} (h : MR C E m U) {b : Nat} {p : List PS} {bt : BT} {k : Nat} {u : Ty} {o : Nat} (h1 : E.ρ b = some bt) (h2 : bt.base = some k) (h3 : partAt bt p u o) {y : AV}
    (hl : (m b).load p = some y) : y.has u = true ∧ ∃ cs el c d e, E.w.heap[k]? = some (.cells cs el (0, 0)) ∧ cs.toList = c ++ d ++ e ∧ c.length = o ∧ RC E y d := by
  have hb := h.blocks b
  cases hm : m b with
  | var t v =>
    rw [hm] at hb hl
    obtain ⟨hh, k', cs, el, hb, hc, hr⟩ := hb
    rw [h1] at hb; cases hb
    cases h2
    obtain ⟨h4, h5⟩ := h3
    obtain ⟨hy, c, d, e, hcs, hcl, hrd⟩ := load_sound p _ _ _ _ _ _ hh hr h4 h5 hl
    exact ⟨hy, cs, el, c, d, e, hc, hcs, hcl, hrd⟩
  | slab t xs =>
    rw [hm] at hb hl
    obtain ⟨_, hb⟩ := hb
    rcases hb with ⟨hb, _⟩ | ⟨k', cap, cs, el, css, rest, hb, hc, _, _, _, hall, hf⟩
    · rw [h1] at hb; cases hb; simp [BT.base] at h2
    · rw [h1] at hb; cases hb
      cases h2
      cases p with
      | nil => simp [partAt] at h3
      | cons s p =>
        cases s with
        | fld i => simp [partAt] at h3
        | idx i =>
          obtain ⟨q, h4, rfl, h5, h6, h7⟩ := h3
          have hi : i.toNat < xs.length := by omega
          obtain ⟨c, hcx, hd⟩ := hall.get i.toNat _ (List.getElem?_eq_getElem hi)
          have hlat : lat xs i = xs[i.toNat] := by simp [lat, List.getD, List.getElem?_eq_getElem hi]
          simp only [AB.load, hlat] at hl
          obtain ⟨z, hz, c', d', e', rfl, hl', hd'⟩ := Rd.at _ _ _ _ _ _ hd h4 h7
          simp only [hz] at hl
          cases hl
          have hfl := flatten_at hall.lens hcx
          have hlen : css.flatten.length = css.length * t.size := flatten_len hall.lens
          have hle : i.toNat * t.size ≤ css.flatten.length := by
            rw [hlen]; exact Nat.mul_le_mul_right _ (by rw [← hall.length]; omega)
          refine ⟨Ty.eqb_self u, cs, el, css.flatten.take (i.toNat * t.size) ++ c', d', e' ++ css.flatten.drop (i.toNat * t.size + t.size) ++ rest, hc, ?_, ?_, hd'⟩
          · rw [hf]
            conv => lhs; rw [hfl]
            simp
          · have e2 : (css.flatten.take (i.toNat * t.size)).length = i.toNat * t.size := by rw [List.length_take]; omega
            rw [List.length_append, e2, hl']
  | map x y mm => rw [hm] at hl; simp [AB.load] at hl
  | none => rw [hm] at hl; simp [AB.load] at hl
  | dead => rw [hm] at hl; simp [AB.load] at hl
  | frz t xs => rw [hm] at hl; simp [AB.load] at hl
/-- The kind of the part, by the block's own word. -/
theorem ptr_ty {C : Ctx} {E : Env} {m : Mem} {U : Nat → Prop} (h : MR C E m U) {b : Nat} {p : List PS} {bt : BT} {u v : Ty} {o : Nat} (h1 : E.ρ b = some bt) (h3 : partAt bt p u o) (ht : (m b).tyAt p = some v) : u = v := by
  have hb := h.blocks b
  cases hm : m b with
  | var t x =>
    rw [hm] at hb ht
    obtain ⟨_, k', cs, el, hb, _⟩ := hb
    rw [h1] at hb; cases hb
    obtain ⟨h4, h5⟩ := h3
    simp [AB.tyAt, h4] at ht; exact ht
  | slab t xs =>
    rw [hm] at hb ht
    obtain ⟨_, hb⟩ := hb
    rcases hb with ⟨hb, _⟩ | ⟨k', cap, cs, el, css, rest, hb, _⟩
    · rw [h1] at hb; cases hb; cases p <;> simp [partAt] at h3
    · rw [h1] at hb; cases hb
      cases p with
      | nil => simp [partAt] at h3
      | cons s p =>
        cases s with
        | fld i => simp [partAt] at h3
        | idx i => obtain ⟨q, h4, _⟩ := h3; simp [AB.tyAt, h4] at ht; exact ht
  | map x y mm => rw [hm] at ht; simp [AB.tyAt] at ht
  | none => rw [hm] at ht; simp [AB.tyAt] at ht
  | dead => rw [hm] at ht; simp [AB.tyAt] at ht
  | frz t xs => rw [hm] at ht; simp [AB.tyAt] at ht

theorem cell_of_part {w : World} {k o : Nat} {cs : Array Value} {el : TypeId} {fr : Nat × Nat} {c d e : List Value} (h : w.heap[k]? = some (.cells cs el fr)) (hcs : cs.toList = c ++ d ++ e) (hc : c.length = o) :
    ∀ j v, d[j]? = some v → w.cell? ⟨k, o + j, none⟩ = some v := by
  intro j v hv
  have : cs[o + j]? = some v := by
    rw [← Array.getElem?_toList, hcs, ← hc, List.append_assoc, List.getElem?_append_right (by omega), Nat.add_sub_cancel_left, List.getElem?_append_left (List.getElem?_eq_some_iff.1 hv).1]
    exact hv
  simp [World.cell?, h, this]

section
variable {P : Program} {T : Tab} (hT : TabOK P T) {tid : Nat}
include hT
theorem run_loadVar' {e : TE} (h : T.get tid = some e) (w : World) {b o : Nat} {d : List Value} (hd : d.length = e.size) (h1 : e.agg = false → ∃ c, d = [c]) (hc : ∀ j v, d[j]? = some v → w.cell? ⟨b, o + j, none⟩ = some v) :
    (loadVar tid ⟨b, o, none⟩).run P w = .ok (pk e.agg d) w := by
  cases hg : e.agg with
  | true =>
    have := run_loadCells_list (P := P) w ⟨b, o, none⟩ d (fun j v hv => by rw [addr_add]; exact hc j v hv)
    rw [hd] at this
    simp [loadVar, run_isAgg' hT h, hg, run_sizeOf' hT h, this, pk]
  | false =>
    obtain ⟨c, rfl⟩ := h1 hg
    have := hc 0 c rfl
    simp only [Nat.add_zero] at this
    simp [loadVar, run_isAgg' hT h, hg, this, pk]
omit hT in
theorem hasE_cells {E : Env} {v : AV} {e : TE} {d : List Value} (hn : ∀ a b, e ≠ .ty (.prod a b)) (hu : e ≠ .ty .unit) (h : v.hasE e = true) (hr : RC E v d) : d.length = e.size ∧ v.isAgg = e.agg ∧ (e.agg = false → ∃ c, d = [c]) := by
  cases e with
  | ty t =>
    have h : v.has t = true := by cases v <;> simpa [AV.hasE] using h
    have ha := has_agg h (fun a b he => hn a b (by rw [he])) (fun he => hu (by rw [he]))
    refine ⟨has_cells h hr, ha, fun hg => ?_⟩
    refine hr.single (by rw [ha]; exact hg) ?_ ?_
    · rintro rfl; cases t <;> simp [AV.has] at h; exact hu rfl
    · rintro a l rfl; cases t <;> simp [AV.has] at h; exact hn _ _ rfl
  | mp k x =>
    cases v <;> simp [AV.hasE] at h
    obtain ⟨_, _, _, _, rfl⟩ := hr
    exact ⟨rfl, rfl, fun _ => ⟨_, rfl⟩⟩
  | one =>
    cases v <;> simp [AV.hasE] at h
    · obtain ⟨_, _, rfl, _⟩ := hr; exact ⟨rfl, rfl, fun _ => ⟨_, rfl⟩⟩
    · obtain ⟨_, _, _, _, _, _, _, rfl⟩ := hr; exact ⟨rfl, rfl, fun _ => ⟨_, rfl⟩⟩
    · obtain ⟨_, _, rfl⟩ := hr; exact ⟨rfl, rfl, fun _ => ⟨_, rfl⟩⟩
    · simp [RC] at hr; subst hr; exact ⟨rfl, rfl, fun _ => ⟨_, rfl⟩⟩
  | pt =>
    cases v <;> simp [AV.hasE] at h
    · obtain ⟨_, _, rfl, _⟩ := hr; exact ⟨rfl, rfl, fun _ => ⟨_, rfl⟩⟩
    · obtain ⟨_, _, _, _, _, _, _, rfl⟩ := hr; exact ⟨rfl, rfl, fun _ => ⟨_, rfl⟩⟩
    · simp [RC] at hr; subst hr; exact ⟨rfl, rfl, fun _ => ⟨_, rfl⟩⟩
theorem tab_noprod {e : TE} (h : T.get tid = some e) : (∀ a b, e ≠ .ty (.prod a b)) ∧ e ≠ .ty .unit := by
  have := hT tid e h
  constructor
  · rintro a b rfl; exact this.1.elim
  · rintro rfl; exact this.1.elim

theorem loadK_ok {R : Type} {C : Ctx} {m : Mem} {U : Nat → Prop} {x : AV} {K : AV → Option R} {y : R} (h : loadK T tid m x K = some y) :
    ∃ v, K v = some y ∧ ∀ E a, RV E x a → MR C E m U → ∃ z, (Instr.loadAt tid a).run P E.w = .ok z E.w ∧ RV E v z := by
  unfold loadK at h
  split at h
  · rename_i e b p he
    split at h
    · rename_i v hl
      split at h
      · rename_i hh
        refine ⟨v, h, fun E a ha hm => ?_⟩
        obtain ⟨bt, k, u, o, h1, h2, h3, rfl⟩ := ha.ptr
        obtain ⟨_, cs, el, c, d, f, hc, hcs, hcl, hr⟩ := ptr_block hm h1 h2 h3 hl
        obtain ⟨hd, hg, hs⟩ := hasE_cells (tab_noprod hT he).1 (tab_noprod hT he).2 hh hr
        refine ⟨pk e.agg d, ?_, by rw [← hg]; exact RV.of hr⟩
        simp [Instr.loadAt, Instr.sureAddr, run_loadVar' hT he E.w hd hs (cell_of_part hc hcs hcl)]
      · cases h
    · cases h
  · rename_i t u a he
    split at h
    · rename_i a' ha'
      obtain ⟨e1, hx⟩ := cast?_some ha'
      subst e1; subst hx
      refine ⟨_, h, fun E v hv _ => ?_⟩
      obtain ⟨ad, c, rfl, hs, hi, hr, hcell⟩ := hv.eptr
      have hd := Rd.len _ _ _ hr
      cases ad with
      | mk b o sp =>
        simp only at hs; subst hs
        refine ⟨pk u.agg c, ?_, ⟨c, rfl, hr⟩⟩
        have := run_loadVar' hT he E.w (d := c) hd (fun hg => hr.single hg) hcell
        simp [Instr.loadAt, Instr.sureAddr, this]; rfl
    · cases h
  · cases h

theorem run_part {t : Ty} (h : T.get tid = some (.ty t)) (w : World) {cs c d e : List Value} (hcs : cs = c ++ d ++ e) (hd : d.length = t.size) (h1 : t.agg = false → ∃ x, d = [x]) :
    (part tid cs.toArray c.length).run P w = .ok (pk t.agg d) w := by
  cases hg : t.agg with
  | true =>
    have e1 : (cs.drop c.length).take t.size = d := by
      subst hcs
      rw [← hd]
      simp
    have hg' : TE.agg (.ty t) = true := hg
    simp [part, run_isAgg' hT h, hg', run_sizeOf' hT h, TE.size, pk]
    exact e1
  | false =>
    obtain ⟨x, rfl⟩ := h1 hg
    have hg' : TE.agg (.ty t) = false := hg
    have e1 : cs[c.length]? = some x := by subst hcs; simp
    simp [part, run_isAgg' hT h, hg', e1, pk]

theorem indexK_ok {R : Type} {x i : AV} {K : AV → Option R} {y : R} (h : indexK T tid x i K = some y) :
    ∃ v, K v = some y ∧ ∀ E a j, RV E x a → RV E i j → ∃ z, (Instr.index tid a j).run P E.w = .ok z E.w ∧ RV E v z := by
  unfold indexK at h
  split at h
  · rename_i k i s
    split at h
    · rename_i he
      unfold guardK at h
      cases hc : (decide (0 ≤ i) && decide (i < (s.size : Int))) with
      | false => rw [hc] at h; cases h
      | true =>
        rw [hc] at h
        simp at hc
        refine ⟨_, h, fun E a j ha hj => ?_⟩
        obtain ⟨rfl, _⟩ := ha.str
        obtain ⟨rfl, _⟩ := RV.int hj
        have hu : P.underlying tid = some .string := (hT tid _ he).1
        have hlt : i.toNat < s.size := idx_lt hc
        have e1 : s[i.toNat]? = some s[i.toNat] := by simp [hlt]
        refine ⟨.int .u8 (s[i.toNat]).toNat, ?_, ?_⟩
        · simp [Instr.index, asIntOf, run_underlying hu, hc.1, e1]
        · have e2 : bat s i = ((s[i.toNat]).toNat : Int) := by
            unfold bat
            rw [Array.getD_eq_getD_getElem?, Array.getElem?_eq_getElem (by exact hlt)]
            rfl
          rw [e2]
          refine RV.mkInt ?_
          have := UInt8.toNat_lt (s[i.toNat])
          exact Nat.ble_eq_true_of_le (by show _ ≤ 255; omega)
    · cases h
  · rename_i k i u a hns
    split at h
    · rename_i n e he
      split at h
      · rename_i a' ha'
        obtain ⟨e1, hx⟩ := cast?_some ha'
        subst e1; subst hx
        unfold guardK at h
        cases hc : (decide (0 ≤ i) && decide (i < (n : Int))) with
        | false => rw [hc] at h; cases h
        | true =>
          rw [hc] at h
          simp at hc
          refine ⟨_, h, fun E v j hv hj => ?_⟩
          obtain ⟨cs, rfl, hr⟩ := hv
          obtain ⟨rfl, _⟩ := RV.int hj
          obtain ⟨eid, hu, heid⟩ := (hT tid _ he).1
          have hr : Rd E.w E.imm (.arr n e) a cs := hr
          obtain ⟨z, hz, c, d, f, hcs, hcl, hd⟩ := Rd.at [.idx i] (.arr n e) a cs e (i.toNat * e.size + 0) hr (by simp [tyAt]) ⟨hc.1, hc.2, trivial⟩
          simp [getAt] at hz
          subst hz
          refine ⟨pk e.agg d, ?_, ⟨d, rfl, hd⟩⟩
          have hp := run_part hT heid E.w hcs (Rd.len _ _ _ hd) (fun hg => hd.single hg)
          rw [hcl, Nat.add_zero] at hp
          have e1 : pk (AV.val (.arr n e) a).isAgg cs = .agg cs.toArray := rfl
          rw [e1]
          simp [Instr.index, asIntOf, run_underlying hu, hc.1, hc.2, run_sizeOf' hT heid, TE.size, hp]
      · cases h
    · cases h
  · cases h

theorem fld_info {s : St} (h : T.get tid = some (.ty (.st s))) {i : Nat} {u : Ty} (hn : nthTy s.body i = some u) :
    ∃ fs f, P.underlying tid = some (.struct fs) ∧ fs[i]? = some f ∧ f.offset = nthOff s.body i ∧ T.get f.type = some (.ty u) ∧ u.size ≠ 0 := by
  obtain ⟨fs, hu, hf, _⟩ := (hT tid _ h).1
  have key : ∀ (l : List Field) (b : Ty) (o : Nat) (i : Nat), fldsOK T l o b → nthTy b i = some u → ∃ f, l[i]? = some f ∧ f.offset = o + nthOff b i ∧ T.get f.type = some (.ty u) ∧ u.size ≠ 0 := by
    intro l
    induction l with
    | nil => intro b o i h hn; cases b <;> simp [fldsOK] at h; cases i <;> simp [nthTy] at hn
    | cons f l ih =>
      intro b o i h hn
      cases b <;> simp only [fldsOK] at h <;> try exact h.elim
      obtain ⟨h1, h2, h3, h4, h5⟩ := h
      cases i with
      | zero => simp [nthTy] at hn; subst hn; exact ⟨f, by simp, by simp [nthOff, h1], h2, h4⟩
      | succ i =>
        obtain ⟨g, hg, ho, hgt⟩ := ih _ _ i h5 hn
        exact ⟨g, by simpa using hg, by simp [nthOff, ho]; omega, hgt⟩
  obtain ⟨f, hf1, hf2, hf3⟩ := key _ _ _ _ hf hn
  exact ⟨fs, f, hu, by simpa using hf1, by simpa using hf2, hf3⟩

omit hT in
theorem getNth_ty : ∀ {b : Ty} {x : b.den} {i : Nat} {d : Dyn}, getNth b x i = some d → nthTy b i = some d.t := by
  intro b
  induction b with
  | prod a b _ ihb =>
    intro x i d h
    cases i with
    | zero => simp [getNth] at h; subst h; rfl
    | succ i => exact ihb h
  | _ => intro x i d h; cases i <;> simp [getNth] at h

theorem fieldK_ok {R : Type} {x : AV} {i : Nat} {K : AV → Option R} {y : R} (h : fieldK T tid x i K = some y) :
    ∃ v, K v = some y ∧ ∀ E a, RV E x a → ∃ z, (Instr.field tid a i).run P E.w = .ok z E.w ∧ RV E v z := by
  unfold fieldK at h
  split at h
  · rename_i s he
    split at h
    · rename_i u a
      split at h
      · rename_i a' ha'
        obtain ⟨e1, hx⟩ := cast?_some ha'
        subst e1; subst hx
        split at h
        · rename_i d hd
          refine ⟨_, h, fun E v hv => ?_⟩
          obtain ⟨cs, rfl, hr⟩ := hv
          have hr : Rd E.w E.imm (.st s) a cs := hr
          rw [Rd.st] at hr
          have hn : nthTy s.body i = some d.t := getNth_ty hd
          obtain ⟨fs, f, hu, hf, ho, hft, _⟩ := fld_info hT he hn
          obtain ⟨z, hz, c, dd, e, hcs, hcl, hdr⟩ := Rd.nth _ _ _ _ _ hr hn
          have hz' : getNth s.body (s.unpack a) i = some d := hd
          rw [hz'] at hz
          have : d = ⟨d.t, z⟩ := Option.some.inj hz
          rw [this]
          refine ⟨pk d.t.agg dd, ?_, ⟨dd, rfl, hdr⟩⟩
          have hp := run_part hT hft E.w hcs (Rd.len _ _ _ hdr) (fun hg => hdr.single hg)
          rw [hcl, ← ho] at hp
          have e1 : pk (AV.val (.st s) a).isAgg cs = .agg cs.toArray := rfl
          rw [e1]
          simp [Instr.field, run_underlying hu, hf, asAgg, hp]
        · cases h
      · cases h
    · rename_i s' l
      split at h
      · rename_i v hb hv
        simp at hb
        have := St.no_inj hb.1; subst this
        refine ⟨v, h, fun E a ha => ?_⟩
        obtain ⟨cs, rfl, hr⟩ := ha
        have hr : RC E l cs := hr
        have hn : ∃ u, nthTy s.body i = some u := by
          have key : ∀ (l : AV) (b : Ty) (i : Nat), l.has b = true → nthAV l i = some v → ∃ u, nthTy b i = some u := by
            intro l
            induction l with
            | cons a l _ ihl =>
              intro b i hh hv
              cases b <;> simp [AV.has] at hh
              cases i with
              | zero => exact ⟨_, rfl⟩
              | succ i => exact ihl _ i hh.2 hv
            | _ => intro b i _ hv; cases i <;> simp [nthAV] at hv
          exact key l s.body i hb.2 hv
        obtain ⟨u, hn⟩ := hn
        obtain ⟨fs, f, hu, hf, ho, hft, _⟩ := fld_info hT he hn
        obtain ⟨hau, c, d, e, hcs, hcl, hd⟩ := RC.nth hb.2 hr hn hv
        have hnp := tab_noprod hT hft
        have ha := has_agg hau (fun a b he => hnp.1 a b (by rw [he])) (fun he => hnp.2 (by rw [he]))
        refine ⟨pk u.agg d, ?_, by rw [← ha]; exact RV.of hd⟩
        have hs : u.agg = false → ∃ x, d = [x] := fun hg => by
          refine hd.single (by rw [ha]; exact hg) ?_ ?_
          · rintro rfl; cases u <;> simp [AV.has] at hau; exact hnp.2 rfl
          · rintro a l rfl; cases u <;> simp [AV.has] at hau; exact hnp.1 _ _ rfl
        have hp := run_part hT hft E.w hcs (has_cells hau hd) hs
        rw [hcl, ← ho] at hp
        have e1 : pk (AV.agv s l).isAgg cs = .agg cs.toArray := rfl
        rw [e1]
        simp [Instr.field, run_underlying hu, hf, asAgg, hp]
      · cases h
    · cases h
  · cases h
end
end Go.Co
end

section
namespace Go.Co
open Go.RowKit

/-! ### Ways to parts, one step longer -/
theorem tyAt_snoc_fld : ∀ {p : List PS} {t : Ty} {s : St} {o i : Nat} {u : Ty}, tyAt t p = some (.st s, o) → nthTy s.body i = some u → tyAt t (p.snoc (.fld i)) = some (u, o + nthOff s.body i) := by
  intro p
  induction p with
  | nil => intro t s o i u h hn; simp [tyAt] at h; obtain ⟨rfl, rfl⟩ := h; simp [List.snoc, tyAt, hn]
  | cons q p ih =>
    intro t s o i u h hn
    cases q with
    | fld j =>
      cases t <;> simp [tyAt] at h
      rename_i s'
      cases hj : nthTy s'.body j with
      | none => simp [hj] at h
      | some v =>
        simp only [hj] at h
        cases ha : tyAt v p with
        | none => simp [ha] at h
        | some vo =>
          obtain ⟨u', o'⟩ := vo
          simp [ha] at h
          obtain ⟨rfl, rfl⟩ := h
          simp [List.snoc, tyAt, hj, ih ha hn, Nat.add_assoc]
    | idx j =>
      cases t <;> simp [tyAt] at h
      rename_i n t
      cases ha : tyAt t p with
      | none => simp [ha] at h
      | some vo =>
        obtain ⟨u', o'⟩ := vo
        simp [ha] at h
        obtain ⟨rfl, rfl⟩ := h
        simp [List.snoc, tyAt, ih ha hn, Nat.add_assoc]
theorem tyAt_snoc_idx : ∀ {p : List PS} {t : Ty} {n : Nat} {e : Ty} {o : Nat} {i : Int}, tyAt t p = some (.arr n e, o) → tyAt t (p.snoc (.idx i)) = some (e, o + i.toNat * e.size) := by
  intro p
  induction p with
  | nil => intro t n e o i h; simp [tyAt] at h; obtain ⟨rfl, rfl⟩ := h; simp [List.snoc, tyAt]
  | cons q p ih =>
    intro t n e o i h
    cases q with
    | fld j =>
      cases t <;> simp [tyAt] at h
      rename_i s'
      cases hj : nthTy s'.body j with
      | none => simp [hj] at h
      | some v =>
        simp only [hj] at h
        cases ha : tyAt v p with
        | none => simp [ha] at h
        | some vo =>
          obtain ⟨u', o'⟩ := vo
          simp [ha] at h
          obtain ⟨rfl, rfl⟩ := h
          simp [List.snoc, tyAt, hj, ih ha, Nat.add_assoc]
    | idx j =>
      cases t <;> simp [tyAt] at h
      rename_i n t
      cases ha : tyAt t p with
      | none => simp [ha] at h
      | some vo =>
        obtain ⟨u', o'⟩ := vo
        simp [ha] at h
        obtain ⟨rfl, rfl⟩ := h
        simp [List.snoc, tyAt, ih ha, Nat.add_assoc]
theorem inRange_snoc_fld : ∀ {p : List PS} {t : Ty} {s : St} {o i : Nat} {u : Ty}, tyAt t p = some (.st s, o) → inRange t p → nthTy s.body i = some u → inRange t (p.snoc (.fld i)) := by
  intro p
  induction p with
  | nil => intro t s o i u h _ hn; simp [tyAt] at h; obtain ⟨rfl, rfl⟩ := h; simp [List.snoc, inRange, hn]
  | cons q p ih =>
    intro t s o i u h hr hn
    cases q with
    | fld j =>
      cases t <;> simp [tyAt] at h
      rename_i s'
      cases hj : nthTy s'.body j with
      | none => simp [hj] at h
      | some v =>
        simp only [hj] at h
        cases ha : tyAt v p with
        | none => simp [ha] at h
        | some vo =>
          obtain ⟨u', o'⟩ := vo
          simp [ha] at h
          obtain ⟨rfl, rfl⟩ := h
          simp [inRange, hj] at hr
          simpa [List.snoc, inRange, hj] using ih ha hr hn
    | idx j =>
      cases t <;> simp [tyAt] at h
      rename_i n t
      cases ha : tyAt t p with
      | none => simp [ha] at h
      | some vo =>
        obtain ⟨u', o'⟩ := vo
        simp [ha] at h
        obtain ⟨rfl, rfl⟩ := h
        exact ⟨hr.1, hr.2.1, ih ha hr.2.2 hn⟩
theorem inRange_snoc_idx : ∀ {p : List PS} {t : Ty} {n : Nat} {e : Ty} {o : Nat} {i : Int}, tyAt t p = some (.arr n e, o) → inRange t p → 0 ≤ i → i < n → inRange t (p.snoc (.idx i)) := by
  intro p
  induction p with
  | nil => intro t n e o i h _ h0 h1; simp [tyAt] at h; obtain ⟨rfl, rfl⟩ := h; exact ⟨h0, h1, trivial⟩
  | cons q p ih =>
    intro t n e o i h hr h0 h1
    cases q with
    | fld j =>
      cases t <;> simp [tyAt] at h
      rename_i s'
      cases hj : nthTy s'.body j with
      | none => simp [hj] at h
      | some v =>
        simp only [hj] at h
        cases ha : tyAt v p with
        | none => simp [ha] at h
        | some vo =>
          obtain ⟨u', o'⟩ := vo
          simp [ha] at h
          obtain ⟨rfl, rfl⟩ := h
          simp [inRange, hj] at hr
          simpa [List.snoc, inRange, hj] using ih ha hr h0 h1
    | idx j =>
      cases t <;> simp [tyAt] at h
      rename_i n t
      cases ha : tyAt t p with
      | none => simp [ha] at h
      | some vo =>
        obtain ⟨u', o'⟩ := vo
        simp [ha] at h
        obtain ⟨rfl, rfl⟩ := h
        exact ⟨hr.1, hr.2.1, ih ha hr.2.2 h0 h1⟩
theorem partAt_fld {bt : BT} {p : List PS} {s : St} {o i : Nat} {u : Ty} (h : partAt bt p (.st s) o) (hn : nthTy s.body i = some u) : partAt bt (p.snoc (.fld i)) u (o + nthOff s.body i) := by
  cases bt with
  | var b t => exact ⟨tyAt_snoc_fld h.1 hn, inRange_snoc_fld h.1 h.2 hn⟩
  | slab b t cap len =>
    cases p with
    | nil => exact h.elim
    | cons q p =>
      cases q with
      | fld j => exact h.elim
      | idx j =>
        obtain ⟨q, h1, h2, h3, h4, h5⟩ := h
        exact ⟨q + nthOff s.body i, tyAt_snoc_fld h1 hn, by omega, h3, h4, inRange_snoc_fld h1 h5 hn⟩
  | _ => cases p <;> exact h.elim
theorem partAt_idx {bt : BT} {p : List PS} {n : Nat} {e : Ty} {o : Nat} {i : Int} (h : partAt bt p (.arr n e) o) (h0 : 0 ≤ i) (hi : i < n) : partAt bt (p.snoc (.idx i)) e (o + i.toNat * e.size) := by
  cases bt with
  | var b t => exact ⟨tyAt_snoc_idx h.1, inRange_snoc_idx h.1 h.2 h0 hi⟩
  | slab b t cap len =>
    cases p with
    | nil => exact h.elim
    | cons q p =>
      cases q with
      | fld j => exact h.elim
      | idx j =>
        obtain ⟨q, h1, h2, h3, h4, h5⟩ := h
        exact ⟨q + i.toNat * e.size, tyAt_snoc_idx h1, by omega, h3, h4, inRange_snoc_idx h1 h5 h0 hi⟩
  | _ => cases p <;> exact h.elim

theorem guardK_some {R : Type} {c : Bool} {r : Option R} {y : R} (h : guardK c r = some y) : c = true ∧ r = some y := by
  cases c with
  | false => cases h
  | true => exact ⟨rfl, h⟩

section
variable {P : Program} {T : Tab} (hT : TabOK P T) {tid : Nat}
include hT
theorem fieldAddrK_ok {R : Type} {C : Ctx} {m : Mem} {U : Nat → Prop} {x : AV} {i : Nat} {K : AV → Option R} {y : R} (h : fieldAddrK T tid m x i K = some y) :
    ∃ v, K v = some y ∧ ∀ E a, RV E x a → MR C E m U → ∃ z, (Instr.fieldAt tid a i).run P E.w = .ok z E.w ∧ RV E v z := by
  unfold fieldAddrK at h
  split at h
  · rename_i s he
    split at h
    · rename_i u' hn
      obtain ⟨fs, f, hu, hf, ho, hft, hsz⟩ := fld_info hT he hn
      split at h
      · rename_i b p
        split at h
        · rename_i u hty
          split at h
          · rename_i heq
            have := Ty.eq_of_eqb heq; subst this
            refine ⟨_, h, fun E a ha hm => ?_⟩
            obtain ⟨bt, k, u, o, h1, h2, h3, rfl⟩ := ha.ptr
            have := ptr_ty hm h1 h3 hty; subst this
            refine ⟨.pointer (some ⟨k, o + nthOff s.body i, none⟩), ?_, RV.mkPtr h1 h2 (partAt_fld h3 hn)⟩
            have hz : (sizeOf f.type).run P E.w = .ok u'.size E.w := run_sizeOf' hT hft E.w
            simp [Instr.fieldAt, run_underlying hu, hf, Instr.sureAddr, fieldPlace, hz, hsz, addr_add, ho]
          · cases h
        · cases h
      · rename_i u a
        split at h
        · rename_i a' ha'
          obtain ⟨e1, hx⟩ := cast?_some ha'
          subst e1; subst hx
          split at h
          · rename_i d hd
            refine ⟨_, h, fun E v hv _ => ?_⟩
            obtain ⟨ad, c, rfl, hs, hi, hr, hcell⟩ := hv.eptr
            have hr : Rd E.w E.imm (.st s) a c := hr
            rw [Rd.st] at hr
            have hd' : getNth s.body (s.unpack a) i = some d := hd
            have hn' := getNth_ty hd'
            rw [hn] at hn'; cases hn'
            obtain ⟨z, hz, c1, dd, e, hcs, hcl, hdr⟩ := Rd.nth _ _ _ _ _ hr hn
            rw [hd'] at hz
            have : d = ⟨d.t, z⟩ := Option.some.inj hz
            rw [this]
            cases ad with
            | mk b o sp =>
              simp only at hs; subst hs
              refine ⟨.pointer (some ⟨b, o + nthOff s.body i, none⟩), ?_, RV.mkEptr (c := dd) rfl hi hdr (fun j v hv => ?_)⟩
              · have hzz : (sizeOf f.type).run P E.w = .ok d.t.size E.w := run_sizeOf' hT hft E.w
                simp [Instr.fieldAt, run_underlying hu, hf, Instr.sureAddr, fieldPlace, hzz, hsz, addr_add, ho]
              · have := hcell (nthOff s.body i + j) v (by
                  rw [hcs, ← hcl, List.append_assoc, List.getElem?_append_right (by omega), Nat.add_sub_cancel_left, List.getElem?_append_left (List.getElem?_eq_some_iff.1 hv).1]
                  exact hv)
                simpa [Nat.add_assoc] using this
          · cases h
        · cases h
      · cases h
    · cases h
  · cases h

theorem indexAddrK_ok {R : Type} {C : Ctx} {m : Mem} {U : Nat → Prop} {x i : AV} {K : AV → Option R} {y : R} (h : indexAddrK T tid m x i K = some y) :
    ∃ v, K v = some y ∧ ∀ E a j, RV E x a → RV E i j → MR C E m U → ∃ z, (Instr.indexAt tid a j).run P E.w = .ok z E.w ∧ RV E v z := by
  unfold indexAddrK at h
  split at h
  · rename_i k i n e he
    obtain ⟨eid, hu, heid⟩ := (hT tid _ he).1
    split at h
    · rename_i b p
      split at h
      · rename_i u hty
        split at h
        · rename_i heq
          have := Ty.eq_of_eqb heq; subst this
          obtain ⟨hc, h⟩ := guardK_some h
          simp only [Bool.and_eq_true, decide_eq_true_eq] at hc
          refine ⟨_, h, fun E a j ha hj hm => ?_⟩
          obtain ⟨bt, k', u, o, h1, h2, h3, rfl⟩ := ha.ptr
          have := ptr_ty hm h1 h3 hty; subst this
          obtain ⟨rfl, _⟩ := RV.int hj
          refine ⟨.pointer (some ⟨k', o + i.toNat * e.size, none⟩), ?_, RV.mkPtr h1 h2 (partAt_idx h3 hc.1 hc.2)⟩
          have hz : (sizeOf eid).run P E.w = .ok e.size E.w := run_sizeOf' hT heid E.w
          simp [Instr.indexAt, asIntOf, run_underlying hu, Instr.sureAddr, hc.1, hc.2, hz, addr_add]
        · cases h
      · cases h
    · rename_i u a
      split at h
      · rename_i a' ha'
        obtain ⟨e1, hx⟩ := cast?_some ha'
        subst e1; subst hx
        obtain ⟨hc, h⟩ := guardK_some h
        simp only [Bool.and_eq_true, decide_eq_true_eq] at hc
        refine ⟨_, h, fun E v j hv hj _ => ?_⟩
        obtain ⟨ad, c, rfl, hs, hi, hr, hcell⟩ := hv.eptr
        obtain ⟨rfl, _⟩ := RV.int hj
        have hr : Rd E.w E.imm (.arr n e) a c := hr
        obtain ⟨z, hz, c1, d, f, hcs, hcl, hd⟩ := Rd.at [.idx i] (.arr n e) a c e (i.toNat * e.size + 0) hr (by simp [tyAt]) ⟨hc.1, hc.2, trivial⟩
        simp [getAt] at hz
        subst hz
        cases ad with
        | mk b o sp =>
          simp only at hs; subst hs
          refine ⟨.pointer (some ⟨b, o + i.toNat * e.size, none⟩), ?_, RV.mkEptr (c := d) rfl hi hd (fun j v hv => ?_)⟩
          · have hz : (sizeOf eid).run P E.w = .ok e.size E.w := run_sizeOf' hT heid E.w
            simp [Instr.indexAt, asIntOf, run_underlying hu, Instr.sureAddr, hc.1, hc.2, hz, addr_add]
          · have := hcell (i.toNat * e.size + j) v (by
              rw [hcs, show i.toNat * e.size = c1.length by omega, List.append_assoc, List.getElem?_append_right (by omega), Nat.add_sub_cancel_left, List.getElem?_append_left (List.getElem?_eq_some_iff.1 hv).1]
              exact hv)
            simpa [Nat.add_assoc] using this
      · cases h
    · cases h
  · rename_i k i e he
    obtain ⟨eid, hu, heid⟩ := (hT tid _ he).1
    split at h
    · rename_i u a
      split at h
      · rename_i xs ha'
        obtain ⟨e1, hx⟩ := cast?_some ha'
        subst e1; subst hx
        obtain ⟨hc, h⟩ := guardK_some h
        simp only [Bool.and_eq_true, decide_eq_true_eq] at hc
        refine ⟨_, h, fun E v j hv hj _ => ?_⟩
        obtain ⟨cs, rfl, hr⟩ := hv
        have hr : Rd E.w E.imm (.list e) a cs := hr
        obtain ⟨rfl, _⟩ := RV.int hj
        rw [Rd.list] at hr
        obtain ⟨_, hr⟩ := hr
        have hlt : i.toNat < List.length a := idx_lt hc
        rcases hr with ⟨_, hnil⟩ | ⟨ad, cap, css, rfl, hs, hlc, hcap, hall, him, hcell⟩
        · have hnil : a = [] := hnil
          rw [hnil] at hlt; simp at hlt
        · obtain ⟨c, hcx, hd⟩ := hall.get i.toNat _ (List.getElem?_eq_getElem hlt)
          have hlat : lat a i = a[i.toNat] := by simp [lat, List.getD, List.getElem?_eq_getElem hlt]
          rw [hlat]
          cases ad with
          | mk b o sp =>
            have hs := hs (by intro hn; rw [hn] at hlt; simp at hlt)
            simp only at hs; subst hs
            refine ⟨.pointer (some ⟨b, o + i.toNat * e.size, none⟩), ?_, RV.mkEptr (c := c) rfl (him (by intro hn; rw [hn] at hlt; simp at hlt)) hd (fun j v hv => ?_)⟩
            · have hz : (sizeOf eid).run P E.w = .ok e.size E.w := run_sizeOf' hT heid E.w
              have e1 : pk (AV.val (.list e) a).isAgg [Value.slice (some ⟨b, o, none⟩) (List.length a) cap] = .slice (some ⟨b, o, none⟩) (List.length a) cap := rfl
              rw [e1]
              simp [Instr.indexAt, asIntOf, run_underlying hu, hc.1, hc.2, hz, addr_add]
            · have hfl := flatten_at hall.lens hcx
              have hlen : css.flatten.length = css.length * e.size := flatten_len hall.lens
              have hle : i.toNat * e.size ≤ css.flatten.length := by
                rw [hlen]; exact Nat.mul_le_mul_right _ (by rw [← hall.length]; omega)
              have e2 : (css.flatten.take (i.toNat * e.size)).length = i.toNat * e.size := by rw [List.length_take]; omega
              have := hcell (i.toNat * e.size + j) v (by
                rw [hfl, List.append_assoc, List.getElem?_append_right (by omega), e2, Nat.add_sub_cancel_left, List.getElem?_append_left (List.getElem?_eq_some_iff.1 hv).1]
                exact hv)
              simpa [Nat.add_assoc] using this
      · cases h
    · rename_i b
      split at h
      · rename_i u xs hmb
        split at h
        · rename_i heq
          have := Ty.eq_of_eqb heq; subst this
          obtain ⟨hc, h⟩ := guardK_some h
          simp only [Bool.and_eq_true, decide_eq_true_eq] at hc
          refine ⟨_, h, fun E v j hv hj hm => ?_⟩
          obtain ⟨rfl, _⟩ := RV.int hj
          have hlt : i.toNat < List.length xs := idx_lt hc
          obtain ⟨cs, rfl, hr⟩ := hv
          have hb := hm.blocks b
          rw [hmb] at hb
          obtain ⟨_, hb⟩ := hb
          rcases hb with ⟨_, hnil⟩ | ⟨k', cap, cells, el, css, rest, hb, hcell, _⟩
          · have hnil : xs = [] := hnil
            rw [hnil] at hlt; simp at hlt
          · rcases hr with ⟨t', hb', _⟩ | ⟨k2, t', cap', len, hb', rfl⟩
            · rw [hb] at hb'; cases hb'
            · rw [hb] at hb'; cases hb'
              refine ⟨.pointer (some ⟨k', i.toNat * u.size, none⟩), ?_, RV.mkPtr hb rfl ⟨0, rfl, by simp, hc.1, hc.2, trivial⟩⟩
              have hz : (sizeOf eid).run P E.w = .ok u.size E.w := run_sizeOf' hT heid E.w
              have e1 : pk (AV.sl b).isAgg [Value.slice (some ⟨k', 0, none⟩) (List.length xs) cap] = .slice (some ⟨k', 0, none⟩) (List.length xs) cap := rfl
              rw [e1]
              simp [Instr.indexAt, asIntOf, run_underlying hu, hc.1, hc.2, hz, addr_add]
        · cases h
      · cases h
    · rename_i b lo hi
      split at h
      · rename_i u xs hmb
        split at h
        · rename_i heq
          have := Ty.eq_of_eqb heq; subst this
          obtain ⟨hc, h⟩ := guardK_some h
          simp only [Bool.and_eq_true, decide_eq_true_eq, lenC_eq] at hc
          refine ⟨_, h, fun E v j hv hj hm => ?_⟩
          obtain ⟨rfl, _⟩ := RV.int hj
          obtain ⟨cs, rfl, hr⟩ := hv
          obtain ⟨hl0, hlh, hr⟩ := hr
          obtain ⟨bt, c0, g1, g2, g3⟩ := slab_elt hm hmb
          change Int at i
          have hc : (0 : Int) ≤ i ∧ i < hi - lo := hc
          rcases hr with ⟨t', hb', hh, _⟩ | ⟨k', t', cap, len, ad, cp, hb', hlen, hcp, hcm, rfl, had⟩
          · omega
          · rw [hb'] at g1; cases g1
            cases g2
            have had := had (by omega)
            subst had
            refine ⟨.pointer (some ⟨k', lo.toNat * u.size + i.toNat * u.size, none⟩), ?_, ?_⟩
            · have hz : (sizeOf eid).run P E.w = .ok u.size E.w := run_sizeOf' hT heid E.w
              have e1 : pk (AV.ssl b lo hi).isAgg [Value.slice (some ⟨k', lo.toNat * u.size, none⟩) (hi - lo).toNat cp] = .slice (some ⟨k', lo.toNat * u.size, none⟩) (hi - lo).toNat cp := rfl
              rw [e1]
              have hlt : i < ((hi - lo).toNat : Int) := by omega
              simp [Instr.indexAt, asIntOf, run_underlying hu, hc.1, hz, addr_add]
              intro hle
              omega
            · rw [addC_eq]
              have he : lo.toNat * u.size + i.toNat * u.size = (lo + i).toNat * u.size := by rw [← Nat.add_mul]; congr 1; omega
              rw [he]
              exact RV.mkPtr hb' rfl ⟨0, rfl, by simp, by omega, by omega, trivial⟩
        · cases h
      · cases h
    · rename_i b p
      split at h
      · rename_i n u hty
        split at h
        · rename_i heq
          have := Ty.eq_of_eqb heq; subst this
          obtain ⟨hc, h⟩ := guardK_some h
          simp only [Bool.and_eq_true, decide_eq_true_eq] at hc
          refine ⟨_, h, fun E v j hv hj hm => ?_⟩
          obtain ⟨rfl, _⟩ := RV.int hj
          obtain ⟨cs, rfl, k', t', n', u', o, hb, hp1, hp2, _, _, rfl⟩ := hv
          have := ptr_ty hm (bt := .var k' t') hb ⟨hp1, hp2⟩ hty
          cases this
          refine ⟨.pointer (some ⟨k', o + i.toNat * u.size, none⟩), ?_, RV.mkPtr hb rfl (partAt_idx (bt := .var k' t') ⟨hp1, hp2⟩ hc.1 hc.2)⟩
          have hz : (sizeOf eid).run P E.w = .ok u.size E.w := run_sizeOf' hT heid E.w
          have e1 : pk (AV.asl b p).isAgg [Value.slice (some ⟨k', o, none⟩) n n] = .slice (some ⟨k', o, none⟩) n n := rfl
          rw [e1]
          simp [Instr.indexAt, asIntOf, run_underlying hu, hc.1, hc.2, hz, addr_add]
        · cases h
      · cases h
    · cases h
  · cases h
end

/-! ### Whole numbers -/
theorem inKind_iff {k : IntKind} {n : Int} : inKind k n = true ↔ k.min ≤ n ∧ n ≤ k.max := by
  cases n with
  | ofNat n => cases k <;> simp [inKind, maxOf, IntKind.min, IntKind.max, IntKind.signed, IntKind.bits, Nat.ble_eq] <;> omega
  | negSucc n => cases k <;> simp [inKind, maxOf, IntKind.min, IntKind.max, IntKind.signed, IntKind.bits, Nat.ble_eq] <;> omega
theorem inKind_wrap (k : IntKind) (n : Int) : inKind k (k.wrap n) = true := by
  rw [inKind_iff]
  cases k <;> simp only [IntKind.wrap, IntKind.min, IntKind.max, IntKind.signed, IntKind.bits] <;> simp <;> (try split) <;> omega
theorem inKind_shr {k : IntKind} {n : Int} (h : inKind k n = true) (j : Nat) : inKind k (n.fdiv (2 ^ j)) = true := by
  rw [inKind_iff] at *
  have hp : (0 : Int) < 2 ^ j := Int.pow_pos (by decide)
  rw [Int.fdiv_eq_ediv_of_nonneg _ (by omega)]
  have h1 : k.min ≤ 0 := by cases k <;> decide
  have h2 : 0 ≤ k.max := by cases k <;> decide
  constructor
  · by_cases hn : 0 ≤ n
    · have := Int.ediv_nonneg hn (Int.le_of_lt hp); omega
    · have : n ≤ n / 2 ^ j := by
        rw [Int.le_ediv_iff_mul_le hp]
        have h3 : n * 2 ^ j ≤ n * 1 := Int.mul_le_mul_of_nonpos_left (by omega) (by omega)
        omega
      omega
  · by_cases hn : 0 ≤ n
    · have := Int.ediv_le_self (2 ^ j) hn; omega
    · have : n / 2 ^ j < 0 := Int.ediv_neg_of_neg_of_pos (by omega) hp
      omega
theorem emod_le' {a b : Int} (ha : 0 ≤ a) (hb : 0 < b) : a % b ≤ a := by
  have h1 := Int.mul_ediv_add_emod a b
  have h2 := Int.mul_nonneg (Int.le_of_lt hb) (Int.ediv_nonneg ha (Int.le_of_lt hb))
  omega
theorem inKind_tmod {k : IntKind} {a b : Int} (h : inKind k a = true) : inKind k (a.tmod b) = true := by
  rw [inKind_iff] at *
  have h1 : k.min ≤ 0 := by cases k <;> decide
  have h2 : 0 ≤ k.max := by cases k <;> decide
  by_cases ha : 0 ≤ a
  · have h3 := Int.tmod_nonneg b ha
    have h4 : a.tmod b ≤ a := by
      have := Int.tmod_eq_emod_of_nonneg (b := b) ha
      rw [this]
      by_cases hb : b = 0
      · subst hb; simp
      · have h5 := Int.emod_nonneg a hb
        rcases Int.lt_trichotomy b 0 with hb' | hb' | hb'
        · rw [← Int.emod_neg]; exact emod_le' ha (by omega)
        · exact absurd hb' hb
        · exact emod_le' ha hb'
    omega
  · have e : a.tmod b = -((-a).tmod b) := by rw [Int.neg_tmod]; omega
    have h3 := Int.tmod_nonneg b (a := -a) (by omega)
    have h4 : (-a).tmod b ≤ -a := by
      have := Int.tmod_eq_emod_of_nonneg (b := b) (a := -a) (by omega)
      rw [this]
      by_cases hb : b = 0
      · subst hb; simp
      · rcases Int.lt_trichotomy b 0 with hb' | hb' | hb'
        · rw [← Int.emod_neg]; exact emod_le' (by omega) (by omega)
        · exact absurd hb' hb
        · exact emod_le' (by omega) hb'
    omega
end Go.Co
end

section
namespace Go.Co
open Go.RowKit

/-! ### Equality of plain data -/
section
variable {P : Program} {T : Tab} (hT : TabOK P T)
include hT
theorem eqFields_ok {w w' : World} {im : Nat → Prop} {D : Nat} (ih : ∀ (t : Ty) (tid : Nat) (x y : t.den) (c d : List Value), t.wt ≤ D → T.get tid = some (.ty t) → t.lists = false → Rd w im t x c → Rd w im t y d →
      ∃ b, (Op.equalIn D tid (pk t.agg c) (pk t.agg d)).run P w' = .ok b w' ∧ (b = true ↔ x = y)) :
    ∀ (l : List Field) (b : Ty) (o : Nat) (x y : b.den) (pre pre' c d : List Value), fldsOK T l o b → b.lists = false → b.wt ≤ D → pre.length = o → pre'.length = o → Rd w im b x c → Rd w im b y d →
      ∃ r, (Op.eqFields D (pre ++ c).toArray (pre' ++ d).toArray l).run P w' = .ok r w' ∧ (r = true ↔ x = y) := by
  intro l
  induction l with
  | nil =>
    intro b o x y pre pre' c d hf _ _ _ _ _ _
    cases b <;> simp only [fldsOK] at hf
    exact ⟨true, by simp [Op.eqFields], by simp⟩
  | cons f l ihl =>
    intro b o x y pre pre' c d hf hl hw hp hp' hx hy
    cases b <;> simp only [fldsOK] at hf
    rename_i a b
    obtain ⟨h1, h2, h3, _, h5⟩ := hf
    simp [Ty.lists] at hl
    simp only [Ty.wt] at hw
    rw [Rd.prod] at hx hy
    obtain ⟨c1, c2, rfl, hx1, hx2⟩ := hx
    obtain ⟨d1, d2, rfl, hy1, hy2⟩ := hy
    have pa : (part f.type (pre ++ (c1 ++ c2)).toArray f.offset).run P w' = .ok (pk a.agg c1) w' := by
      have := run_part hT h2 w' (cs := pre ++ (c1 ++ c2)) (c := pre) (d := c1) (e := c2) (by simp) (Rd.len _ _ _ hx1) (fun hg => hx1.single hg)
      rw [hp, ← h1] at this; exact this
    have pb : (part f.type (pre' ++ (d1 ++ d2)).toArray f.offset).run P w' = .ok (pk a.agg d1) w' := by
      have := run_part hT h2 w' (cs := pre' ++ (d1 ++ d2)) (c := pre') (d := d1) (e := d2) (by simp) (Rd.len _ _ _ hy1) (fun hg => hy1.single hg)
      rw [hp', ← h1] at this; exact this
    obtain ⟨r1, hr1, hq1⟩ := ih a f.type x.1 y.1 c1 d1 (by omega) h2 hl.1 hx1 hy1
    obtain ⟨r2, hr2, hq2⟩ := ihl b (o + a.size) x.2 y.2 (pre ++ c1) (pre' ++ d1) c2 d2 h5 hl.2 (by omega) (by simp [hp, Rd.len _ _ _ hx1]) (by simp [hp', Rd.len _ _ _ hy1]) hx2 hy2
    rw [List.append_assoc, List.append_assoc] at hr2
    cases r1 with
    | false =>
      refine ⟨false, by simp [Op.eqFields, h3, pa, pb, hr1], ?_⟩
      simp at hq1
      simp only [Bool.false_eq_true, false_iff]
      intro e; rw [e] at hq1; exact hq1 rfl
    | true =>
      refine ⟨r2, by simp only [Op.eqFields, h3, ne_eq, not_false_iff, if_true, Sem.run_bind, pa, pb, hr1, Result.andThen_ok, Bool.not_true, Bool.false_eq_true, if_false, hr2], ?_⟩
      have e1 := hq1.1 rfl
      rw [hq2]
      constructor
      · intro e2; exact Prod.ext e1 e2
      · intro e; rw [e]
theorem equalIn_ok {w w' : World} {im : Nat → Prop} : ∀ (D : Nat) (t : Ty) (tid : Nat) (x y : t.den) (c d : List Value), t.wt ≤ D → T.get tid = some (.ty t) → t.lists = false → Rd w im t x c → Rd w im t y d →
    ∃ b, (Op.equalIn D tid (pk t.agg c) (pk t.agg d)).run P w' = .ok b w' ∧ (b = true ↔ x = y) := by
  intro D
  induction D with
  | zero =>
    intro t tid x y c d hw
    have : 0 < t.wt := by cases t with | st s => have := St.wt_body s; simp only [Ty.wt]; omega | _ => simp [Ty.wt]
    omega
  | succ D ih =>
    intro t tid x y c d hw he hl hx hy
    cases t with
    | int k =>
      obtain ⟨rfl, _⟩ := Rd.int.1 hx
      obtain ⟨rfl, _⟩ := Rd.int.1 hy
      refine ⟨(show Int from x) == (show Int from y), ?_, by simp⟩
      exact run_equalIn_int w' D tid k k x y (hT tid _ he).1
    | bool =>
      have h1 := Rd.bool.1 hx; have h2 := Rd.bool.1 hy; subst h1; subst h2
      refine ⟨(show Bool from x) == (show Bool from y), ?_, by simp⟩
      exact run_equalIn_bool' w' D tid x y (hT tid _ he).1
    | str =>
      obtain ⟨rfl, _⟩ := Rd.str.1 hx
      obtain ⟨rfl, _⟩ := Rd.str.1 hy
      refine ⟨(show ByteArray from x).toList == (show ByteArray from y).toList, run_equalIn_string w' D tid x y (hT tid _ he).1, ?_⟩
      rw [beq_iff_eq, ByteArray.toList_eq, ByteArray.toList_eq]
      constructor
      · intro h; exact ByteArray.ext (Array.toList_inj.1 h)
      · intro h; rw [h]
    | unit => exact (hT tid _ he).1.elim
    | prod a b => exact (hT tid _ he).1.elim
    | list t => simp [Ty.lists] at hl
    | st s =>
      obtain ⟨fs, hu, hf, hst⟩ := (hT tid _ he).1
      have hx' := Rd.st.1 hx
      have hy' := Rd.st.1 hy
      have hbl : s.body.lists = false := by cases s <;> simp_all [Ty.lists, St.body]
      have hbw : s.body.wt ≤ D := by have := St.wt_body s; simp only [Ty.wt] at hw; omega
      obtain ⟨r, hr, hq⟩ := eqFields_ok hT (fun t tid x y c d h => ih t tid x y c d h) fs.toList s.body 0 (s.unpack x) (s.unpack y) [] [] c d hf hbl hbw rfl rfl hx' hy'
      refine ⟨r, ?_, ?_⟩
      · have e : P.fieldsOf tid = fs := by simp [Program.fieldsOf, hu]
        have := run_equalIn_struct (P := P) w' D tid c.toArray d.toArray (by rw [e]; exact hu) hst
        rw [e] at this
        show (Op.equalIn (D + 1) tid (.agg c.toArray) (.agg d.toArray)).run P w' = _
        rw [this]; simpa using hr
      · rw [hq]
        constructor
        · intro h; rw [← St.pack_unpack s x, ← St.pack_unpack s y, h]
        · intro h; rw [h]
    | arr n t =>
      obtain ⟨eid, hu, heid⟩ := (hT tid _ he).1
      obtain ⟨cs, rfl, hcs⟩ := Rd.arr.1 hx
      obtain ⟨ds, rfl, hds⟩ := Rd.arr.1 hy
      simp [Ty.lists] at hl
      simp only [Ty.wt] at hw
      have hn : (Vector.toList x).length = n := by simp
      have hn' : (Vector.toList y).length = n := by simp
      have hstep : ∀ i, i < n → ∃ b, (Op.equalIn D eid (pk t.agg (cs.getD i [])) (pk t.agg (ds.getD i []))).run P w' = .ok b w' ∧ (b = true ↔ (Vector.toList x)[i]? = (Vector.toList y)[i]?) ∧
          (part eid cs.flatten.toArray (i * t.size)).run P w' = .ok (pk t.agg (cs.getD i [])) w' ∧ (part eid ds.flatten.toArray (i * t.size)).run P w' = .ok (pk t.agg (ds.getD i [])) w' := by
        intro i hi
        obtain ⟨c, hc, hcd⟩ := hcs.get i _ (List.getElem?_eq_getElem (by rw [hn]; exact hi))
        obtain ⟨d, hd, hdd⟩ := hds.get i _ (List.getElem?_eq_getElem (by rw [hn']; exact hi))
        have ec : cs.getD i [] = c := by simp [List.getD, hc]
        have ed : ds.getD i [] = d := by simp [List.getD, hd]
        obtain ⟨b, hb, hq⟩ := ih t eid _ _ c d (by omega) heid hl hcd hdd
        have l1 : (cs.flatten.take (i * t.size)).length = i * t.size := by
          rw [List.length_take, flatten_len hcs.lens, ← hcs.length, hn]
          exact Nat.min_eq_left (Nat.mul_le_mul_right _ (by omega))
        have l2 : (ds.flatten.take (i * t.size)).length = i * t.size := by
          rw [List.length_take, flatten_len hds.lens, ← hds.length, hn']
          exact Nat.min_eq_left (Nat.mul_le_mul_right _ (by omega))
        have p1 := run_part hT heid w' (flatten_at hcs.lens hc) (Rd.len _ _ _ hcd) (fun hg => hcd.single hg)
        have p2 := run_part hT heid w' (flatten_at hds.lens hd) (Rd.len _ _ _ hdd) (fun hg => hdd.single hg)
        rw [l1] at p1
        rw [l2] at p2
        refine ⟨b, by rw [ec, ed]; exact hb, ?_, by rw [ec]; exact p1, by rw [ed]; exact p2⟩
        rw [hq, List.getElem?_eq_getElem (by rw [hn]; exact hi), List.getElem?_eq_getElem (by rw [hn']; exact hi), Option.some.injEq]
      have hz : (sizeOf eid).run P w' = .ok t.size w' := run_sizeOf' hT heid w'
      have key : ∀ (k i : Nat), i + k = n → ∃ o : Option Bool, (forIn (List.range' i k 1) ((none : Option Bool), ()) fun i __s => do
            let __do_lift ← part eid cs.flatten.toArray (i * t.size)
            let __do_lift_1 ← part eid ds.flatten.toArray (i * t.size)
            let __do_lift ← Op.equalIn D eid __do_lift __do_lift_1
            if (!__do_lift) = true then pure (ForInStep.done (some false, ())) else pure (ForInStep.yield (none, ())) : Sem (Option Bool × Unit)).run P w' = .ok (o, ()) w' ∧
          ((o = none ∧ ∀ j, i ≤ j → j < n → (Vector.toList x)[j]? = (Vector.toList y)[j]?) ∨ (o = some false ∧ ¬ ∀ j, i ≤ j → j < n → (Vector.toList x)[j]? = (Vector.toList y)[j]?)) := by
        intro k
        induction k with
        | zero =>
          intro i hi
          exact ⟨none, by simp, .inl ⟨rfl, fun j h1 h2 => by omega⟩⟩
        | succ k ihk =>
          intro i hi
          obtain ⟨b1, hb1, hq1, p1, p2⟩ := hstep i (by omega)
          obtain ⟨o, hb2, hq2⟩ := ihk (i + 1) (by omega)
          rw [List.range'_succ]
          simp only [List.forIn_cons, Sem.run_bind, p1, p2, hb1, Result.andThen_ok]
          cases b1 with
          | false =>
            refine ⟨some false, by simp, .inr ⟨rfl, fun h => ?_⟩⟩
            exact absurd (hq1.2 (h i (Nat.le_refl _) (by omega))) (by simp)
          | true =>
            have e1 := hq1.1 rfl
            refine ⟨o, ?_, ?_⟩
            · simp only [Bool.not_true, Bool.false_eq_true, if_false, Sem.run_pure, Result.andThen_ok]
              exact hb2
            · rcases hq2 with ⟨h1, h2⟩ | ⟨h1, h2⟩
              · refine .inl ⟨h1, fun j h3 h4 => ?_⟩
                by_cases hj : j = i
                · subst hj; exact e1
                · exact h2 j (by omega) h4
              · exact .inr ⟨h1, fun h => h2 fun j h3 h4 => h j (by omega) h4⟩
      obtain ⟨o, hb, hq⟩ := key n 0 (by omega)
      have hall : (∀ j, 0 ≤ j → j < n → (Vector.toList x)[j]? = (Vector.toList y)[j]?) ↔ x = y := by
        constructor
        · intro h
          have : Vector.toList x = Vector.toList y := by
            apply List.ext_getElem?
            intro j
            by_cases hj : j < n
            · exact h j (Nat.zero_le _) hj
            · rw [List.getElem?_eq_none (by rw [hn]; omega), List.getElem?_eq_none (by rw [hn']; omega)]
          exact Vector.toList_inj.1 this
        · intro h; rw [h]; intros; rfl
      have e : ([:n].size : Nat) = n := by simp [Std.Legacy.Range.size]
      have e1 : ([:n].start : Nat) = 0 := rfl
      have e2 : ([:n].step : Nat) = 1 := rfl
      rcases hq with ⟨rfl, h⟩ | ⟨rfl, h⟩
      · refine ⟨true, ?_, by simpa using hall.1 h⟩
        show (Op.equalIn (D + 1) tid (.agg cs.flatten.toArray) (.agg ds.flatten.toArray)).run P w' = _
        simp only [Op.equalIn, Sem.run_bind, run_underlying hu, Result.andThen_ok, hz]
        rw [Std.Legacy.Range.forIn_eq_forIn_range', e, e1, e2, hb]
        rfl
      · refine ⟨false, ?_, by simpa using fun e => h (hall.2 e)⟩
        show (Op.equalIn (D + 1) tid (.agg cs.flatten.toArray) (.agg ds.flatten.toArray)).run P w' = _
        simp only [Op.equalIn, Sem.run_bind, run_underlying hu, Result.andThen_ok, hz]
        rw [Std.Legacy.Range.forIn_eq_forIn_range', e, e1, e2, hb]
        rfl
end
theorem beq_dec (a b : Int) : (a == b) = decide (a = b) := rfl
/-! ### binOp -/
section
variable {P : Program} {T : Tab}
theorem intOp_ok {R : Type} {op : BinOp} {k l : IntKind} {a b : Int} {K : AV → Option R} {y : R} (h : intOp op k l a b K = some y) (ha : inKind k a = true) (hb : inKind l b = true) :
    ∃ v, K v = some y ∧ ∀ (E : Env) (t : TypeId) (ox oy : Operand), ∃ z, ((do eqGuard op t ox oy (.int k a) (.int l b); binOp op t (.int k a) (.int l b) : Sem Value)).run P E.w = .ok z E.w ∧ RV E v z := by
  unfold intOp at h
  have hb0 : l.signed = false → 0 ≤ b := by
    intro hs; rw [inKind_iff] at hb
    cases l <;> simp [IntKind.signed] at hs <;> simp [IntKind.min, IntKind.signed] at hb <;> omega
  cases op
  case shl =>
    simp only at h
    have hsh : 0 ≤ b → ∀ (E : Env) (t : TypeId) (ox oy : Operand), ((do eqGuard .shl t ox oy (.int k a) (.int l b); binOp .shl t (.int k a) (.int l b) : Sem Value)).run P E.w = .ok (.int k (shlI k a b)) E.w := by
      intro h0 E t ox oy
      have : ¬ b < 0 := by omega
      simp [eqGuard, binOp, Op.shift, this, shlI]
    split at h
    · obtain ⟨hc, h⟩ := guardK_some h
      exact ⟨_, h, fun E t ox oy => ⟨_, hsh (by simpa using hc) E t ox oy, RV.mkInt (inKind_wrap _ _)⟩⟩
    · rename_i hs
      exact ⟨_, h, fun E t ox oy => ⟨_, hsh (hb0 hs) E t ox oy, RV.mkInt (inKind_wrap _ _)⟩⟩
  case shr =>
    simp only at h
    have hsh : 0 ≤ b → ∀ (E : Env) (t : TypeId) (ox oy : Operand), ((do eqGuard .shr t ox oy (.int k a) (.int l b); binOp .shr t (.int k a) (.int l b) : Sem Value)).run P E.w = .ok (.int k (shrI k a b)) E.w := by
      intro h0 E t ox oy
      have : ¬ b < 0 := by omega
      simp [eqGuard, binOp, Op.shift, this, shrI]
    split at h
    · obtain ⟨hc, h⟩ := guardK_some h
      exact ⟨_, h, fun E t ox oy => ⟨_, hsh (by simpa using hc) E t ox oy, RV.mkInt (inKind_shr ha _)⟩⟩
    · rename_i hs
      exact ⟨_, h, fun E t ox oy => ⟨_, hsh (hb0 hs) E t ox oy, RV.mkInt (inKind_shr ha _)⟩⟩
  all_goals
    simp only at h
    split at h
    · cases h
    · rename_i hk
      have := IntKind.eq_of_eqb hk; subst this
      first
        | (obtain ⟨hc, h⟩ := guardK_some h
           have hne : b ≠ 0 := by simpa using hc
           refine ⟨_, h, fun E t ox oy => ⟨.int k (k.wrap (a.tdiv b)), ?_, RV.mkInt (inKind_wrap _ _)⟩⟩
           simp [eqGuard, binOp, Op.intDiv, hne])
        | (obtain ⟨hc, h⟩ := guardK_some h
           have hne : b ≠ 0 := by simpa using hc
           refine ⟨_, h, fun E t ox oy => ⟨.int k (a.tmod b), ?_, RV.mkInt (inKind_tmod ha)⟩⟩
           simp [eqGuard, binOp, Op.intDiv, hne])
        | exact ⟨_, h, fun E t ox oy => ⟨.int k (k.wrap (a + b)), by simp [eqGuard, binOp, Op.intArith], RV.mkInt (inKind_wrap _ _)⟩⟩
        | exact ⟨_, h, fun E t ox oy => ⟨.int k (k.wrap (a - b)), by simp [eqGuard, binOp, Op.intArith], RV.mkInt (inKind_wrap _ _)⟩⟩
        | exact ⟨_, h, fun E t ox oy => ⟨.int k (k.wrap (a * b)), by simp [eqGuard, binOp, Op.intArith], RV.mkInt (inKind_wrap _ _)⟩⟩
        | exact ⟨_, h, fun E t ox oy => ⟨.int k (bw .and k a b), by simp [eqGuard, binOp]; rfl, RV.mkInt (inKind_wrap _ _)⟩⟩
        | exact ⟨_, h, fun E t ox oy => ⟨.int k (bw .or k a b), by simp [eqGuard, binOp]; rfl, RV.mkInt (inKind_wrap _ _)⟩⟩
        | exact ⟨_, h, fun E t ox oy => ⟨.int k (bw .xor k a b), by simp [eqGuard, binOp]; rfl, RV.mkInt (inKind_wrap _ _)⟩⟩
        | exact ⟨_, h, fun E t ox oy => ⟨.int k (bw .andNot k a b), by simp [eqGuard, binOp]; rfl, RV.mkInt (inKind_wrap _ _)⟩⟩
        | exact ⟨_, h, fun E t ox oy => ⟨.bool (decide (a = b)), by simp [eqGuard, binOp, Op.intCmp, beq_dec], RV.mkBool⟩⟩
        | exact ⟨_, h, fun E t ox oy => ⟨.bool (!decide (a = b)), by simp [eqGuard, binOp, Op.intCmp, bne, beq_dec], RV.mkBool⟩⟩
        | exact ⟨_, h, fun E t ox oy => ⟨.bool (decide (a < b)), by simp [eqGuard, binOp, Op.intCmp], RV.mkBool⟩⟩
        | exact ⟨_, h, fun E t ox oy => ⟨.bool (decide (a ≤ b)), by simp [eqGuard, binOp, Op.intCmp], RV.mkBool⟩⟩
        | exact ⟨_, h, fun E t ox oy => ⟨.bool (decide (b < a)), by simp [eqGuard, binOp, Op.intCmp], RV.mkBool⟩⟩
        | exact ⟨_, h, fun E t ox oy => ⟨.bool (decide (b ≤ a)), by simp [eqGuard, binOp, Op.intCmp], RV.mkBool⟩⟩
        | cases h
end
end Go.Co
end
