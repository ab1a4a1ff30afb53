/-
  A run of Go code over named variables: what a piece of code does to its slots and to the variables, slices and maps that it made, told as one Lean term.
  Own text, for the claims about coterie.
-/
import Derived.Test.YtghmcodjbkmlnaaCoTy
import GoSem.Core.Region
import Derived.Calls
namespace Go.Co

/-- What stands in a slot. -/
inductive AV where
  | junk
  | val (t : Ty) (x : t.den)
  /-- the nil slice -/
  | nils
  /-- a pointer into memory that nobody writes: what lies there -/
  | eptr (t : Ty) (x : t.den)
  /-- a pointer to a part of the variable b -/
  | ptr (b : Nat) (p : List PS)
  /-- the slice of the row b, whole -/
  | sl (b : Nat)
  /-- the slice over the whole array at a part of the variable b -/
  | asl (b : Nat) (p : List PS)
  | mp (b : Nat)
  /-- a function, and the variables that it captured -/
  | fn (f : Nat) (caps : List Nat)
  | nilp
  | tup (l : AV)
  /-- a struct that isn't all plain data -/
  | agv (s : St) (l : AV)
  | nil
  | cons (a l : AV)

/-- A variable, a row of elements, a map. -/
inductive AB where
  | none
  | dead
  | var (t : Ty) (v : AV)
  | slab (t : Ty) (xs : List t.den)
  | map (k v : Ty) (m : List (k.den × v.den))

structure AS where
  slots : Nat → AV
  mem : Nat → AB
  nx : Nat

abbrev Mem := Nat → AB
def Mem.put (m : Mem) (b : Nat) (x : AB) : Mem := fun i => match Nat.beq i b with | true => x | false => m i
def AS.put (s : AS) (d : Nat) (v : AV) : AS := { s with slots := fun i => match Nat.beq i d with | true => v | false => s.slots i }

def _root_.List.snoc {α : Type} : List α → α → List α
  | [], x => [x]
  | a :: l, x => a :: l.snoc x
def catL {α : Type} : List α → List α → List α
  | [], l => l
  | a :: r, l => a :: catL r l

/-- What a type's number stands for. -/
inductive TE where
  | ty (t : Ty)
  | mp (k v : Ty)
  /-- one cell: a pointer, a function -/
  | one
abbrev Tab := List (Nat × TE)
def Tab.get : Tab → Nat → Option TE
  | [], _ => Option.none
  | (i, e) :: r, n => match Nat.beq n i with | true => some e | false => Tab.get r n

/-- The greatest number of a kind. -/
def maxOf : IntKind → Nat
  | .i8 => 127 | .i16 => 32767 | .i32 => 2147483647 | .i64 => 9223372036854775807 | .u8 => 255 | .u16 => 65535 | .u32 => 4294967295 | .u64 => 18446744073709551615
def inKind (k : IntKind) : Int → Bool
  | .ofNat n => Nat.ble n (maxOf k)
  | .negSucc n => match k.signed with | true => Nat.ble n (maxOf k) | false => false
/-- The most bytes of a slice or a text. -/
def top : Nat := 140737488355328

def cv : Value → AV
  | .bool b => .val .bool b
  | .int k n => match inKind k n with | true => .val (.int k) n | false => .junk
  | .string s => match Nat.ble s.size top with | true => .val .str s | false => .junk
  | .pointer Option.none => .nilp
  | .slice Option.none 0 0 => .nils
  | _ => .junk
def opv (slots : Nat → AV) : Operand → AV
  | .tmp t => slots t
  | .const v => cv v
  | .func f => .fn f []
  | .global _ => .junk

def nthAV : AV → Nat → Option AV
  | .cons a _, 0 => some a
  | .cons _ l, i + 1 => nthAV l i
  | _, _ => Option.none
def setNthAV : AV → Nat → AV → Option AV
  | .cons _ l, 0, y => some (.cons y l)
  | .cons a l, i + 1, y => match setNthAV l i y with | some l' => some (.cons a l') | Option.none => Option.none
  | _, _, _ => Option.none
def AV.ofList : List AV → AV
  | [] => .nil
  | a :: l => .cons a (AV.ofList l)

def isList : Ty → Bool
  | .list _ => true
  | _ => false
/-- Has it the kind? -/
def AV.has : AV → Ty → Bool
  | .val t _, u => Ty.eqb t u
  | .nils, u => isList u
  | .sl _, u => isList u
  | .asl _ _, u => isList u
  | .agv s l, .st s' => Nat.beq s.no s'.no && l.has s.body
  | .nil, .unit => true
  | .cons a l, .prod x y => a.has x && l.has y
  | _, _ => false
def AV.hasE : AV → TE → Bool
  | v, .ty t => v.has t
  | .mp _, .mp _ _ => true
  | .ptr _ _, .one => true
  | .eptr _ _, .one => true
  | .fn _ _, .one => true
  | .nilp, .one => true
  | _, _ => false

/-- A struct's fields as values. -/
def exBody : (b : Ty) → b.den → AV
  | .prod a b, x => .cons (.val a x.1) (exBody b x.2)
  | _, _ => .nil
/-- The zero fields: nil slices are told as such. -/
def zeroV : Ty → AV
  | .list _ => .nils
  | .st s => match (Ty.st s).lists with | true => .agv s (exZero s.body) | false => .val (.st s) s.zero
  | t => .val t t.zero
where exZero : Ty → AV
  | .prod (.list _) b => .cons .nils (exZero b)
  | .prod a b => .cons (.val a a.zero) (exZero b)
  | _ => .nil

def loadAV : AV → List PS → Option AV
  | v, [] => some v
  | .val t x, s :: p => match getAt t x (s :: p) with | some d => some (.val d.t d.x) | Option.none => Option.none
  | .agv _ l, .fld i :: p => match nthAV l i with | some a => loadAV a p | Option.none => Option.none
  | _, _ :: _ => Option.none
def storeAV : AV → List PS → AV → Option AV
  | _, [], y => some y
  | .val t x, s :: p, y =>
    match y with
    | .val u d => match setAt t x (s :: p) ⟨u, d⟩ with | some x' => some (.val t x') | Option.none => Option.none
    | y => match t, x, s with
      | .st S, x, .fld i => match nthAV (exBody S.body (S.unpack x)) i with
        | some a => match storeAV a p y with
          | some a' => match setNthAV (exBody S.body (S.unpack x)) i a' with | some l' => some (.agv S l') | Option.none => Option.none
          | Option.none => Option.none
        | Option.none => Option.none
      | _, _, _ => Option.none
  | .agv S l, .fld i :: p, y =>
    match nthAV l i with
    | some a => match storeAV a p y with
      | some a' => match setNthAV l i a' with | some l' => some (.agv S l') | Option.none => Option.none
      | Option.none => Option.none
    | Option.none => Option.none
  | _, _ :: _, _ => Option.none

/-- The kind of a part of a block. -/
def AB.tyAt : AB → List PS → Option Ty
  | .var t _, p => match Co.tyAt t p with | some (u, _) => some u | Option.none => Option.none
  | .slab t _, .idx _ :: p => match Co.tyAt t p with | some (u, _) => some u | Option.none => Option.none
  | _, _ => Option.none
def AB.load : AB → List PS → Option AV
  | .var _ v, p => loadAV v p
  | .slab t xs, .idx i :: p => match getAt t (lat xs i) p with | some d => some (.val d.t d.x) | Option.none => Option.none
  | _, _ => Option.none
def lput {α : Type} (l : List α) (i : Int) (x : α) : List α := l.set i.toNat x
def AB.store : AB → List PS → AV → Option AB
  | .var t v, p, y => match storeAV v p y with | some v' => some (.var t v') | Option.none => Option.none
  | .slab t xs, .idx i :: p, .val u d => match setAt t (lat xs i) p ⟨u, d⟩ with | some x => some (.slab t (lput xs i x)) | Option.none => Option.none
  | _, _, _ => Option.none

def asListOf (u : Ty) (e : Ty) (xs : List e.den) : Option u.den := cast? (.list e) u xs
/-- As plain data of the kind. -/
def toPure (m : Mem) : AV → (u : Ty) → Option u.den
  | .val t x, u => cast? t u x
  | .nils, .list _ => some []
  | .sl b, u => match m b with | .slab e xs => asListOf u e xs | _ => Option.none
  | .asl b p, u => match (m b).load p with | some (.val (.arr _ e) x) => asListOf u e x.toList | _ => Option.none
  | .agv s l, .st s' => match toPure m l s.body with | some y => cast? (.st s) (.st s') (s.pack y) | Option.none => Option.none
  | .nil, .unit => some ()
  | .cons a l, .prod x y => match toPure m a x, toPure m l y with | some p, some q => some (p, q) | _, _ => Option.none
  | _, _ => Option.none
/-- Is it a row that may be let go? (no slice over a variable's array) -/
def letsGo : AV → Bool
  | .asl _ _ => false
  | .agv _ l => letsGo l
  | .cons a l => letsGo a && letsGo l
  | _ => true
/-- Its rows are let go: from now on nobody writes them. -/
def kill : AV → Mem → Mem
  | .sl b, m => m.put b .dead
  | .agv _ l, m => kill l m
  | .cons a l, m => kill l (kill a m)
  | _, m => m

/-- Whole numbers of kinds. -/
def bw (op : BinOp) (k : IntKind) (x y : Int) : Int :=
  let a := BitVec.ofInt k.bits x
  let b := BitVec.ofInt k.bits y
  k.wrap (match op with | .and => a &&& b | .or => a ||| b | .xor => a ^^^ b | _ => a &&& ~~~b).toNat
def shlI (k : IntKind) (x y : Int) : Int := k.wrap (x * 2 ^ (min y.toNat k.bits))
def shrI (k : IntKind) (x y : Int) : Int := x.fdiv (2 ^ (min y.toNat k.bits))
/-- A text's byte. -/
def bat (s : ByteArray) (i : Int) : Int := (s.data.getD i.toNat 0).toNat

section
variable {R : Type}
abbrev KO (R : Type) := AV → Mem → Nat → Option R

def guardK (c : Bool) (r : Option R) : Option R := bif c then r else Option.none

def intOp (op : BinOp) (k l : IntKind) (a b : Int) (K : AV → Option R) : Option R :=
  match op with
  | .shl => match l.signed with
    | true => guardK (decide (0 ≤ b)) (K (.val (.int k) (shlI k a b)))
    | false => K (.val (.int k) (shlI k a b))
  | .shr => match l.signed with
    | true => guardK (decide (0 ≤ b)) (K (.val (.int k) (shrI k a b)))
    | false => K (.val (.int k) (shrI k a b))
  | op => match IntKind.eqb k l with
    | false => Option.none
    | true => match op with
      | .add => K (.val (.int k) (k.wrap (a + b)))
      | .sub => K (.val (.int k) (k.wrap (a - b)))
      | .mul => K (.val (.int k) (k.wrap (a * b)))
      | .quo => guardK (!decide (b = 0)) (K (.val (.int k) (k.wrap (a.tdiv b))))
      | .rem => guardK (!decide (b = 0)) (K (.val (.int k) (a.tmod b)))
      | .and => K (.val (.int k) (bw .and k a b))
      | .or => K (.val (.int k) (bw .or k a b))
      | .xor => K (.val (.int k) (bw .xor k a b))
      | .andNot => K (.val (.int k) (bw .andNot k a b))
      | .eql => K (.val .bool (decide (a = b)))
      | .neq => K (.val .bool (!decide (a = b)))
      | .lss => K (.val .bool (decide (a < b)))
      | .leq => K (.val .bool (decide (a ≤ b)))
      | .gtr => K (.val .bool (decide (b < a)))
      | .geq => K (.val .bool (decide (b ≤ a)))
      | _ => Option.none
def eqOp (op : BinOp) (t : Ty) (a b : t.den) (K : AV → Option R) : Option R :=
  match t.lists, Nat.ble t.wt 10000 with
  | true, _ => Option.none
  | _, false => Option.none
  | false, true => match op with
    | .eql => K (.val .bool (@decide (a = b) (t.decEq a b)))
    | .neq => K (.val .bool (!@decide (a = b) (t.decEq a b)))
    | _ => Option.none
def strOp (op : BinOp) (a b : ByteArray) (K : AV → Option R) : Option R :=
  match op with
  | .add => guardK (decide (a.size + b.size ≤ top)) (K (.val .str (a ++ b)))
  | op => eqOp op .str a b K
def binK (op : BinOp) (e : TE) (x y : AV) (K : AV → Option R) : Option R :=
  match x, y with
  | .val (.int k) a, .val (.int l) b => intOp op k l a b K
  | .val .str a, .val .str b => strOp op a b K
  | .val t a, .val u b => match cast? u t b, e with
    | some b', .ty t' => match Ty.eqb t t' with
      | true => eqOp op t a b' K
      | false => Option.none
    | _, _ => Option.none
  | _, _ => Option.none
def unK (op : UnOp) (x : AV) (K : AV → Option R) : Option R :=
  match op, x with
  | .not, .val .bool b => K (.val .bool (!b))
  | .neg, .val (.int k) n => K (.val (.int k) (k.wrap (0 - n)))
  | .xor, .val (.int k) n => K (.val (.int k) (bw .xor k (match k.signed with | true => -1 | false => k.max) n))
  | _, _ => Option.none

def capNames : List AV → Option (List Nat)
  | [] => some []
  | .ptr b [] :: r => match capNames r with | some l => some (b :: l) | Option.none => Option.none
  | _ => Option.none
def setParts (b : Ty) : AV → List (Nat × AV) → Option AV
  | l, [] => some l
  | l, (i, v) :: r => match nthTy b i with
    | some u => match v.has u, setNthAV l i v with
      | true, some l' => setParts b l' r
      | _, _ => Option.none
    | Option.none => Option.none
/-- Fields that are all plain data, as one datum. -/
def packBody : (b : Ty) → AV → Option b.den
  | .prod x y, .cons (.val t a) l => match cast? t x a, packBody y l with | some p, some q => some (p, q) | _, _ => Option.none
  | .unit, .nil => some ()
  | _, _ => Option.none
def buildSt (s : St) (parts : List (Nat × AV)) : Option AV :=
  match setParts s.body (zeroV.exZero s.body) parts with
  | some l => match packBody s.body l with
    | some y => some (.val (.st s) (s.pack y))
    | Option.none => some (.agv s l)
  | Option.none => Option.none
def buildArr (n : Nat) (t : Ty) (a : Arr n t.den) : List (Nat × AV) → Option (Arr n t.den)
  | [] => some a
  | (i, .val u x) :: r => match Nat.blt i n, cast? u t x with
    | true, some y => buildArr n t (Arr.put a (i : Int) y) r
    | _, _ => Option.none
  | _ => Option.none
/-- The elements of a slice's literal: those places that it names. -/
def buildRow (m : Mem) (t : Ty) (l : List t.den) : List (Nat × AV) → Option (List t.den × Mem)
  | [] => some (l, m)
  | (i, v) :: r => match Nat.blt i l.length, letsGo v, toPure m v t with
    | true, true, some y => buildRow (kill v m) t (l.set i y) r
    | _, _, _ => Option.none

/-- The row that a slice stands for: its elements. -/
def rowOf (m : Mem) : AV → (t : Ty) → Option (List t.den)
  | .val (.list e) xs, t => cast? (.list e) (.list t) xs
  | .nils, _ => some []
  | .sl b, t => match m b with | .slab e xs => cast? (.list e) (.list t) xs | _ => Option.none
  | _, _ => Option.none

def lenK (T : Tab) (tid : Nat) (m : Mem) (x : AV) (K : AV → Option R) : Option R :=
  match T.get tid, x with
  | some (.ty .str), .val .str s => K (.val .i (s.size : Int))
  | some (.ty (.list _)), .val (.list _) xs => K (.val .i (List.length xs : Int))
  | some (.ty (.list _)), .nils => K (.val .i (0 : Int))
  | some (.ty (.list _)), .sl b => match m b with | .slab _ xs => K (.val .i (List.length xs : Int)) | _ => Option.none
  | some (.ty (.list _)), .asl b p => match (m b).tyAt p with | some (.arr n _) => K (.val .i (n : Int)) | _ => Option.none
  | some (.ty (.arr n _)), _ => match Nat.ble n 9223372036854775807 with | true => K (.val .i (n : Int)) | false => Option.none
  | some (.mp _ _), .mp b => match m b with | .map _ _ l => guardK (decide (List.length l ≤ top)) (K (.val .i (List.length l : Int))) | _ => Option.none
  | _, _ => Option.none

def appendK (T : Tab) (tid uid : Nat) (m : Mem) (nx : Nat) (s x : AV) (K : KO R) : Option R :=
  match Nat.beq tid uid, T.get tid with
  | true, some (.ty (.list t)) =>
    match Nat.ble 1 t.bytes, s, rowOf m x t with
    | true, .nils, some ys => guardK (decide (List.length ys * t.bytes ≤ top)) (K (.sl nx) (m.put nx (.slab t ys)) (nx + 1))
    | true, .sl b, some ys => match m b with
      | .slab e xs => match cast? (.list e) (.list t) xs with
        | some xs => guardK (decide ((List.length xs + List.length ys) * t.bytes ≤ top)) (K (.sl nx) ((m.put b .dead).put nx (.slab t (List.append xs ys))) (nx + 1))
        | Option.none => Option.none
      | _ => Option.none
    | _, _, _ => Option.none
  | _, _ => Option.none

/-- Keys that are held against one another cell by cell. -/
def simpleKey : Ty → Bool
  | .int _ | .bool | .str => true
  | _ => false
def mget {α β : Type} [DecidableEq α] (l : List (α × β)) (k : α) : Option β := match l.find? (fun e => decide (e.1 = k)) with | some e => some e.2 | Option.none => Option.none
def mput {α β : Type} [DecidableEq α] : List (α × β) → α → β → List (α × β)
  | [], k, v => [(k, v)]
  | e :: r, k, v => if e.1 = k then (k, v) :: r else e :: mput r k v

/-- How a piece of code ends. -/
inductive AExit where
  | normal
  | exit (id : Nat)
  | ret

/-- What a function is known to answer. -/
abbrev denL : List Ty → Type
  | [] => Unit
  | t :: r => t.den × denL r
structure Con where
  args : List Ty
  res : List Ty
  fn : denL args → Option (denL res)
abbrev Cons' := List (Nat × Con)
def conOf : Cons' → Nat → Option Con
  | [], _ => Option.none
  | (i, c) :: r, n => match Nat.beq n i with | true => some c | false => conOf r n
def toPureL (m : Mem) : (l : List Ty) → List AV → Option (denL l)
  | [], [] => some ()
  | t :: r, v :: vs => match toPure m v t, toPureL m r vs with | some x, some y => some (x, y) | _, _ => Option.none
  | _, _ => Option.none
def resVs : (l : List Ty) → denL l → AV
  | [], _ => .nil
  | t :: r, x => .cons (.val t x.1) (resVs r x.2)
def resAV : (l : List Ty) → denL l → AV
  | [t], x => .val t x.1
  | l, x => .tup (resVs l x)
def killL : List AV → Mem → Mem
  | [], m => m
  | v :: r, m => killL r (kill v m)

structure EE where
  T : Tab
  con : Cons'
  lp : Nat → ((R : Type) → AS → (AExit → AS → Option R) → Option R) → (R : Type) → AS → (AExit → AS → Option R) → Option R
  inl : (R : Type) → Nat → List AV → Mem → Nat → KO R → Option R

def conK (c : Con) (vs : List AV) (m : Mem) (nx : Nat) (K : KO R) : Option R :=
  match toPureL m c.args vs with
  | Option.none => Option.none
  | some x => match c.res.any Ty.lists with
    | false => (c.fn x).bind fun y => K (resAV c.res y) m nx
    | true => match vs.all letsGo with
      | true => (c.fn x).bind fun y => K (resAV c.res y) (killL vs m) nx
      | false => Option.none
def callK (E : EE) (f : Nat) (vs : List AV) (m : Mem) (nx : Nat) (K : KO R) : Option R :=
  match conOf E.con f with
  | some c => conK c vs m nx K
  | Option.none => E.inl R f vs m nx K

def minmaxK (mx : Bool) (vs : List AV) (K : AV → Option R) : Option R :=
  match vs with
  | [.val (.int k) a, .val (.int l) b] => match IntKind.eqb k l with
    | true => K (.val (.int k) (match mx with | true => max a b | false => min a b))
    | false => Option.none
  | _ => Option.none

def builtinK (E : EE) (b : Builtin) (tys : List Nat) (vs : List AV) (m : Mem) (nx : Nat) (K : KO R) : Option R :=
  match b, tys, vs with
  | .len, [t], [x] => lenK E.T t m x fun v => K v m nx
  | .append, [t, u], [s, x] => appendK E.T t u m nx s x K
  | .max, _, vs => minmaxK true vs fun v => K v m nx
  | .min, _, vs => minmaxK false vs fun v => K v m nx
  | _, _, _ => Option.none

/-- The address of an element. -/
def indexAddrK (T : Tab) (tid : Nat) (m : Mem) (x i : AV) (K : AV → Option R) : Option R :=
  match i, T.get tid with
  | .val (.int _) i, some (.ty (.arr n e)) => match x with
    | .ptr b p => match (m b).tyAt p with
      | some u => match Ty.eqb u (.arr n e) with
        | true => guardK (decide (0 ≤ i) && decide (i < (n : Int))) (K (.ptr b (p.snoc (.idx i))))
        | false => Option.none
      | Option.none => Option.none
    | .eptr u a => match cast? u (.arr n e) a with
      | some a => guardK (decide (0 ≤ i) && decide (i < (n : Int))) (K (.eptr e (Arr.get a i)))
      | Option.none => Option.none
    | _ => Option.none
  | .val (.int _) i, some (.ty (.list e)) => match x with
    | .val u a => match cast? u (.list e) a with
      | some xs => guardK (decide (0 ≤ i) && decide (i < (List.length xs : Int))) (K (.eptr e (lat xs i)))
      | Option.none => Option.none
    | .sl b => match m b with
      | .slab u xs => match Ty.eqb u e with
        | true => guardK (decide (0 ≤ i) && decide (i < (List.length xs : Int))) (K (.ptr b [.idx i]))
        | false => Option.none
      | _ => Option.none
    | .asl b p => match (m b).tyAt p with
      | some (.arr n u) => match Ty.eqb u e with
        | true => guardK (decide (0 ≤ i) && decide (i < (n : Int))) (K (.ptr b (p.snoc (.idx i))))
        | false => Option.none
      | _ => Option.none
    | _ => Option.none
  | _, _ => Option.none
def indexK (T : Tab) (tid : Nat) (x i : AV) (K : AV → Option R) : Option R :=
  match i, x with
  | .val (.int _) i, .val .str s => match T.get tid with
    | some (.ty .str) => guardK (decide (0 ≤ i) && decide (i < (s.size : Int))) (K (.val (.int .u8) (bat s i)))
    | _ => Option.none
  | .val (.int _) i, .val u a => match T.get tid with
    | some (.ty (.arr n e)) => match cast? u (.arr n e) a with
      | some a => guardK (decide (0 ≤ i) && decide (i < (n : Int))) (K (.val e (Arr.get a i)))
      | Option.none => Option.none
    | _ => Option.none
  | _, _ => Option.none
def fieldAddrK (T : Tab) (tid : Nat) (m : Mem) (x : AV) (i : Nat) (K : AV → Option R) : Option R :=
  match T.get tid with
  | some (.ty (.st s)) => match nthTy s.body i with
    | some _ => match x with
      | .ptr b p => match (m b).tyAt p with
        | some u => match Ty.eqb u (.st s) with
          | true => K (.ptr b (p.snoc (.fld i)))
          | false => Option.none
        | Option.none => Option.none
      | .eptr u a => match cast? u (.st s) a with
        | some a => match getFld (.st s) a i with
          | some d => K (.eptr d.t d.x)
          | Option.none => Option.none
        | Option.none => Option.none
      | _ => Option.none
    | Option.none => Option.none
  | _ => Option.none
def fieldK (T : Tab) (tid : Nat) (x : AV) (i : Nat) (K : AV → Option R) : Option R :=
  match T.get tid with
  | some (.ty (.st s)) => match x with
    | .val u a => match cast? u (.st s) a with
      | some a => match getFld (.st s) a i with
        | some d => K (.val d.t d.x)
        | Option.none => Option.none
      | Option.none => Option.none
    | .agv s' l => match Nat.beq s.no s'.no && l.has s.body, nthAV l i with
      | true, some v => K v
      | _, _ => Option.none
    | _ => Option.none
  | _ => Option.none
def loadK (T : Tab) (tid : Nat) (m : Mem) (x : AV) (K : AV → Option R) : Option R :=
  match T.get tid, x with
  | some e, .ptr b p => match (m b).load p with
    | some v => match v.hasE e with
      | true => K v
      | false => Option.none
    | Option.none => Option.none
  | some (.ty t), .eptr u a => match cast? u t a with
    | some a => K (.val t a)
    | Option.none => Option.none
  | _, _ => Option.none
def storeK (T : Tab) (tid : Nat) (m : Mem) (x v : AV) (K : Mem → Option R) : Option R :=
  match T.get tid, x with
  | some (.ty t), .ptr b p => match (m b).tyAt p, v.has t with
    | some u, true => match Ty.eqb u t, (m b).store p v with
      | true, some y => K (m.put b y)
      | _, _ => Option.none
    | _, _ => Option.none
  | _, _ => Option.none
def sliceK (T : Tab) (tid : Nat) (m : Mem) (x : AV) (lo hi : Option AV) (K : AV → Option R) : Option R :=
  match T.get tid, x, lo, hi with
  | some (.ty (.arr n e)), .ptr b p, Option.none, Option.none => match m b with
    | .var t _ => match Co.tyAt t p with
      | some (u, _) => match Ty.eqb u (.arr n e), Nat.ble (n * e.bytes) top, Nat.ble n 9223372036854775807 with
        | true, true, true => K (.asl b p)
        | _, _, _ => Option.none
      | Option.none => Option.none
    | _ => Option.none
  | some (.ty .str), .val .str s, lo, hi =>
    match (match lo with | Option.none => some (0 : Int) | some (.val (.int _) l) => some l | _ => Option.none), (match hi with | Option.none => some (s.size : Int) | some (.val (.int _) h) => some h | _ => Option.none) with
    | some l, some h => guardK (decide (0 ≤ l) && decide (l ≤ h) && decide (h ≤ (s.size : Int))) (K (.val .str (s.extract l.toNat h.toNat)))
    | _, _ => Option.none
  | some (.ty (.list e)), .val u a, lo, hi => match cast? u (.list e) a with
    | some xs =>
      match (match lo with | Option.none => some (0 : Int) | some (.val (.int _) l) => some l | _ => Option.none), (match hi with | Option.none => some (List.length xs : Int) | some (.val (.int _) h) => some h | _ => Option.none) with
      | some l, some h => guardK (decide (0 ≤ l) && decide (l ≤ h) && decide (h ≤ (List.length xs : Int))) (K (.val (.list e) ((List.take h.toNat xs).drop l.toNat)))
      | _, _ => Option.none
    | Option.none => Option.none
  | some (.ty (.list e)), .sl b, Option.none, Option.none => match m b with
    | .slab u _ => match Ty.eqb u e with
      | true => K (.sl b)
      | false => Option.none
    | _ => Option.none
  | _, _, _, _ => Option.none
def convK (T : Tab) (src dst : Nat) (x : AV) (K : AV → Option R) : Option R :=
  match T.get src, T.get dst, x with
  | some (.ty (.int _)), some (.ty (.int k)), .val (.int _) n => K (.val (.int k) (k.wrap n))
  | some (.ty .str), some (.ty .str), .val .str s => K (.val .str s)
  | _, _, _ => Option.none
def lookupK (T : Tab) (tid : Nat) (m : Mem) (x k : AV) (ok : Bool) (K : AV → Option R) : Option R :=
  match T.get tid, x with
  | some (.mp kt vt), .mp b => match m b with
    | .map kt' vt' l => match Ty.eqb kt' kt && Ty.eqb vt' vt && simpleKey kt', k with
      | true, .val u a => match cast? u kt' a with
        | some a => match ok with
          | false => K (.val vt' ((@mget _ _ kt'.decEq l a).getD vt'.zero))
          | true => K (.tup (.cons (.val vt' ((@mget _ _ kt'.decEq l a).getD vt'.zero)) (.cons (.val .bool (@mget _ _ kt'.decEq l a).isSome) .nil)))
        | Option.none => Option.none
      | _, _ => Option.none
    | _ => Option.none
  | _, _ => Option.none
def mapUpdateK (T : Tab) (tid : Nat) (m : Mem) (x k v : AV) (K : Mem → Option R) : Option R :=
  match T.get tid, x with
  | some (.mp kt vt), .mp b => match m b with
    | .map kt' vt' l => match Ty.eqb kt' kt && Ty.eqb vt' vt && simpleKey kt' && !vt'.lists, k, v with
      | true, .val u a, .val w c => match cast? u kt' a, cast? w vt' c with
        | some a, some c => K (m.put b (.map kt' vt' (@mput _ _ kt'.decEq l a c)))
        | _, _ => Option.none
      | _, _, _ => Option.none
    | _ => Option.none
  | _, _ => Option.none

/-- One operation. -/
def opF (E : EE) (ρ : Operand → AV) (o : Op) (m : Mem) (nx : Nat) (K : KO R) : Option R :=
  match o with
  | .move x => K (ρ x) m nx
  | .assign x => K (ρ x) m nx
  | .pick c a b => match ρ c with
    | .val .bool t => bif t then K (ρ a) m nx else K (ρ b) m nx
    | _ => Option.none
  | .load t a => loadK E.T t m (ρ a) fun v => K v m nx
  | .index t x i => indexK E.T t (ρ x) (ρ i) fun v => K v m nx
  | .indexAddr t x i => indexAddrK E.T t m (ρ x) (ρ i) fun v => K v m nx
  | .field t x i => fieldK E.T t (ρ x) i fun v => K v m nx
  | .fieldAddr t x i => fieldAddrK E.T t m (ρ x) i fun v => K v m nx
  | .binOp op t x y _ => match E.T.get t with
    | some e => binK op e (ρ x) (ρ y) fun v => K v m nx
    | Option.none => Option.none
  | .unOp op _ x => unK op (ρ x) fun v => K v m nx
  | .convert s d x => convK E.T s d (ρ x) fun v => K v m nx
  | .extract x i => match ρ x with
    | .tup l => match nthAV l i with
      | some v => K v m nx
      | Option.none => Option.none
    | _ => Option.none
  | .lookup t x k ok => lookupK E.T t m (ρ x) (ρ k) ok fun v => K v m nx
  | .slice t x lo hi Option.none => sliceK E.T t m (ρ x) (lo.map ρ) (hi.map ρ) fun v => K v m nx
  | .makeFunc (.func f) first caps => match first.size with
    | 0 => match capNames (caps.toList.map ρ) with
      | some l => K (.fn f l) m nx
      | Option.none => Option.none
    | _ => Option.none
  | .build t parts => match E.T.get t with
    | some (.ty (.st s)) => match buildSt s (parts.toList.map fun x => (x.1, ρ x.2)) with
      | some v => K v m nx
      | Option.none => Option.none
    | some (.ty (.arr n e)) => match buildArr n e (Vector.replicate n e.zero) (parts.toList.map fun x => (x.1, ρ x.2)) with
      | some a => K (.val (.arr n e) a) m nx
      | Option.none => Option.none
    | _ => Option.none
  | .call c => match c.callee with
    | .builtin b => builtinK E b c.argTypes.toList (c.args.toList.map ρ) m nx K
    | .value f => match ρ f with
      | .fn f caps => callK E f (catL (c.args.toList.map ρ) (caps.map fun b => .ptr b [])) m nx K
      | _ => Option.none
    | _ => Option.none
  | .alloc t => match E.T.get t with
    | some (.ty t) => K (.ptr nx []) (m.put nx (.var t (zeroV t))) (nx + 1)
    | _ => Option.none
  | .box t x => match E.T.get t with
    | some (.ty t) => match (ρ x).has t with
      | true => K (.ptr nx []) (m.put nx (.var t (ρ x))) (nx + 1)
      | false => Option.none
    | _ => Option.none
  | .store t a x => storeK E.T t m (ρ a) (ρ x) fun m' => K .junk m' nx
  | .makeMap t Option.none => match E.T.get t with
    | some (.mp k v) => K (.mp nx) (m.put nx (.map k v [])) (nx + 1)
    | _ => Option.none
  | .mapUpdate t x k v => mapUpdateK E.T t m (ρ x) (ρ k) (ρ v) fun m' => K .junk m' nx
  | .buildSlice t n parts => match E.T.get t with
    | some (.ty (.list e)) => match Nat.ble (n * e.size) 16777216 && Nat.ble n 16777216, Nat.ble (n * e.bytes) top, buildRow m e (List.replicate n e.zero) (parts.toList.map fun x => (x.1, ρ x.2)) with
      | true, true, some (l, m') => K (.sl nx) (m'.put nx (.slab e l)) (nx + 1)
      | _, _, _ => Option.none
    | _ => Option.none
  | _ => Option.none

def putDst (s : AS) (d : Option Nat) (v : AV) : AS :=
  match d with
  | some d => s.put d v
  | Option.none => s
/-- From here on the test in the slot is known. -/
def know (s : AS) (d : Nat) (b : Bool) : AS := s.put d (.val .bool b)
/-- Has the guard's operation yielded so? -/
def dstOf (ops : List Oper) (j : Nat) : Option Nat :=
  match ops, j with
  | o :: _, 0 => o.dst
  | _ :: r, j + 1 => dstOf r j
  | [], _ => Option.none
def evOps (E : EE) (n : Nat) (all : List Oper) : List Oper → AS → (AS → Option R) → Option R
  | [], s, K => K s
  | o :: r, s, K =>
    match (match o.dst with | some d => Nat.blt d n | Option.none => true) with
    | false => Option.none
    | true => match o.guard with
      | Option.none => opF E (opv s.slots) o.op s.mem s.nx fun v m nx => evOps E n all r (putDst ⟨s.slots, m, nx⟩ o.dst v) K
      | some (j, want) => match dstOf all j with
        | Option.none => Option.none
        | some d => match s.slots d with
          | .val .bool b => match want with
            | true => bif b then opF E (opv (know s d true).slots) o.op s.mem s.nx fun v m nx => evOps E n all r (putDst ⟨(know s d true).slots, m, nx⟩ o.dst v) K
              else evOps E n all r (putDst (know s d false) o.dst .nil) K
            | false => bif b then evOps E n all r (putDst (know s d true) o.dst .nil) K
              else opF E (opv (know s d false).slots) o.op s.mem s.nx fun v m nx => evOps E n all r (putDst ⟨(know s d false).slots, m, nx⟩ o.dst v) K
          | .nil => evOps E n all r (putDst s o.dst .nil) K
          | _ => Option.none

/-! ### Regions whose operations come in any order that their edges allow -/
def tmpsOf (ops : List Operand) : List Nat := match ops with | [] => [] | .tmp t :: r => t :: tmpsOf r | _ :: r => tmpsOf r
def onOf (es : List Edge) : List Nat := match es with | [] => [] | e :: r => match Region.binds .any e with | true => e.on :: onOf r | false => onOf r
def edgesAt (all : List Oper) (j : Nat) : List Nat := match all, j with | o :: _, 0 => onOf o.after.toList | _ :: r, j + 1 => edgesAt r j | [], _ => []
def memB (l : List Nat) (n : Nat) : Bool := match l with | [] => false | a :: r => match Nat.beq n a with | true => true | false => memB r n
theorem memB_nil (n : Nat) : memB [] n = false := rfl
theorem memB_cons (a : Nat) (r : List Nat) (n : Nat) : memB (a :: r) n = (Nat.beq n a || memB r n) := by
  rw [memB]; cases Nat.beq n a <;> rfl
/-- Does i come before j in every order? (a way of so many edges) -/
def befB (all : List Oper) : Nat → Nat → Nat → Bool
  | 0, _, _ => false
  | k + 1, i, j => memB (edgesAt all j) i || (edgesAt all j).any fun e => Nat.blt i e && befB all k i e
/-- Each edge goes back. -/
def backB : Nat → List Oper → Bool
  | _, [] => true
  | j, o :: r => (onOf o.after.toList).all (Nat.blt · j) && backB (j + 1) r

/-- The names in a value. -/
def names : AV → List Nat
  | .ptr b _ => [b]
  | .sl b => [b]
  | .asl b _ => [b]
  | .mp b => [b]
  | .fn _ caps => caps
  | .tup l => names l
  | .agv _ l => names l
  | .cons a l => catL (names a) (names l)
  | _ => []
def blkNames : AB → List Nat
  | .var _ v => names v
  | _ => []
def closeN (m : Mem) : List Nat → List Nat
  | [] => []
  | b :: r => catL (blkNames (m b)) (closeN m r)
def valNames (ρ : Operand → AV) : List Operand → List Nat
  | [] => []
  | x :: r => catL (names (ρ x)) (valNames ρ r)
/-- An operation's operands. -/
def optL : Option Operand → List Operand
  | some x => [x]
  | Option.none => []
def sndL : List (Nat × Operand) → List Operand
  | [] => []
  | p :: r => p.2 :: sndL r
def opndL : Op → List Operand
  | .call c => match c.callee with | .value f => f :: c.args.toList | _ => c.args.toList
  | .makeFunc _ first caps => catL first.toList caps.toList
  | .slice _ x l h m => x :: catL (optL l) (catL (optL h) (optL m))
  | .makeMap _ r => optL r
  | .build _ ps => sndL ps.toList
  | .buildSlice _ _ ps => sndL ps.toList
  | op => op.operands.toList
/-- The names of blocks that an operation looks at. -/
def footR (ρ : Operand → AV) (m : Mem) (op : Op) : List Nat :=
  match op with
  | .call _ => catL (valNames ρ (opndL op)) (catL (closeN m (valNames ρ (opndL op))) (closeN m (closeN m (valNames ρ (opndL op)))))
  | op => valNames ρ (opndL op)
/-- May it write them? -/
def opWr (E : EE) (ρ : Operand → AV) (op : Op) : Bool :=
  match op with
  | .store _ _ _ => true
  | .mapUpdate _ _ _ _ => true
  | .buildSlice _ _ _ => true
  | .call c => match c.callee with
    | .builtin .append => true
    | .builtin _ => false
    | .value f => match ρ f with
      | .fn f _ => match conOf E.con f with
        | some c => c.res.any Ty.lists
        | Option.none => true
      | _ => true
    | _ => true
  | _ => false
/-- What an operation has looked at and written: slots, names. -/
structure FP where
  rs : List Nat
  dst : Option Nat
  R : List Nat
  W : List Nat
def fromTo (a : Nat) : Nat → List Nat
  | 0 => []
  | k + 1 => a :: fromTo (a + 1) k
def only (l : List Nat) (f : Nat → AV) : Nat → AV := fun i => match memB l i with | true => f i | false => .junk
def onlyM (l : List Nat) (m : Mem) : Mem := fun i => match memB l i with | true => m i | false => .none
def over (l : List Nat) (m' m : Mem) : Mem := fun i => match memB l i with | true => m' i | false => m i
def putD (f : Nat → AV) (d : Option Nat) (v : AV) : Nat → AV :=
  match d with
  | some d => fun i => match Nat.beq i d with | true => v | false => f i
  | Option.none => f
/-- An operation, seeing only what it looks at. -/
def opD (E : EE) (rs : List Nat) (o : Oper) (s : AS) (K : AS → FP → Option R) : Option R :=
  let ρ := opv (only rs s.slots)
  let F := footR ρ s.mem o.op
  opF E ρ o.op (onlyM F s.mem) s.nx fun v m nx =>
    let W := catL (fromTo s.nx (nx - s.nx)) (match opWr E ρ o.op with | true => F | false => [])
    K ⟨putD s.slots o.dst v, over W m s.mem, nx⟩ ⟨rs, o.dst, F, W⟩
def evDraw (E : EE) (n : Nat) (all : List Oper) : List Oper → AS → List FP → (AS → List FP → Option R) → Option R
  | [], s, fs, K => K s fs
  | o :: r, s, fs, K =>
    match (match o.dst with | some d => Nat.blt d n | Option.none => true) with
    | false => Option.none
    | true => match o.guard with
      | Option.none => opD E (tmpsOf (opndL o.op)) o s fun s f => evDraw E n all r s (fs.snoc f) K
      | some (j, want) => match dstOf all j with
        | Option.none => Option.none
        | some d => match s.slots d with
          | .val .bool b => match want with
            | true => bif b then opD E (d :: tmpsOf (opndL o.op)) o (know s d true) fun s f => evDraw E n all r s (fs.snoc f) K
              else evDraw E n all r ⟨putD (know s d false).slots o.dst .nil, s.mem, s.nx⟩ (fs.snoc ⟨[d], o.dst, [], []⟩) K
            | false => bif b then evDraw E n all r ⟨putD (know s d true).slots o.dst .nil, s.mem, s.nx⟩ (fs.snoc ⟨[d], o.dst, [], []⟩) K
              else opD E (d :: tmpsOf (opndL o.op)) o (know s d false) fun s f => evDraw E n all r s (fs.snoc f) K
          | .nil => evDraw E n all r ⟨putD s.slots o.dst .nil, s.mem, s.nx⟩ (fs.snoc ⟨[d], o.dst, [], []⟩) K
          | _ => Option.none
def memO (l : List Nat) : Option Nat → Bool
  | some d => memB l d
  | Option.none => false
def eqO : Option Nat → Option Nat → Bool
  | some d, some e => Nat.beq d e
  | _, _ => false
def meets (l r : List Nat) : Bool := l.any (memB r)
/-- Do they come out alike in either order? -/
def apartB (f g : FP) : Bool :=
  !(memO g.rs f.dst || eqO f.dst g.dst || memO f.rs g.dst || meets f.W g.R || meets f.W g.W || meets f.R g.W)
def rowB (all : List Oper) (j : Nat) (g : FP) : Nat → List FP → Bool
  | _, [] => true
  | i, f :: r => (match Nat.blt i j with | true => apartB f g || befB all 6 i j | false => true) && rowB all j g (i + 1) r
def allB (all : List Oper) (fs : List FP) : Nat → List FP → Bool
  | _, [] => true
  | j, g :: r => rowB all j g 0 fs && allB all fs (j + 1) r
def drawFine (all : List Oper) (fs : List FP) : Bool := backB 0 all && allB all fs 0 fs

def knowO (s : AS) (c : Operand) (b : Bool) : AS :=
  match c with
  | .tmp t => know s t b
  | _ => s
def firstReg : Code → Nat
  | .region id _ _ => id
  | .seq a b => match a with | .skip => firstReg b | .label _ => firstReg b | a => firstReg a
  | .block _ b => firstReg b
  | .loop b => firstReg b
  | .scope b => firstReg b
  | _ => 0

def evC (E : EE) (n : Nat) : Code → (R : Type) → AS → (AExit → AS → Option R) → Option R
  | .skip, _, s, K => K .normal s
  | .region _ ops draw, _, s, K => match draw with
    | false => evOps E n ops.toList ops.toList s (K .normal)
    | true => evDraw E n ops.toList ops.toList s [] fun s fs => match drawFine ops.toList fs with
      | true => K .normal s
      | false => Option.none
  | .seq a b, R, s, K => evC E n a R s fun e s' => match e with | .normal => evC E n b R s' K | e => K e s'
  | .cond c x y, R, s, K => match opv s.slots c with
    | .val .bool b => bif b then evC E n x R (knowO s c true) K else evC E n y R (knowO s c false) K
    | _ => Option.none
  | .block id body, R, s, K => evC E n body R s fun e s' => match e with
    | .exit j => match Nat.beq j id with | true => K .normal s' | false => K (.exit j) s'
    | e => K e s'
  | .loop body, R, s, K => E.lp (firstReg body) (evC E n body) R s K
  | .exit id, _, s, K => K (.exit id) s
  | .ret, _, s, K => K .ret s
  | _, _, _, _ => Option.none
end

/-! ### Ends of functions -/
def slotL : List AV → Nat → AV
  | [], _ => .junk
  | v :: _, 0 => v
  | _ :: r, i + 1 => slotL r i
def initS (vs : List AV) (m : Mem) (nx : Nat) : AS := ⟨slotL vs, m, nx⟩
def resOne (T : Tab) (s : AS) : ResultVar → Option AV
  | .tmp t => some (s.slots t)
  | .cell t tid => loadK T tid s.mem (s.slots t) some
def resList (T : Tab) (s : AS) : List ResultVar → Option (List AV)
  | [] => some []
  | r :: l => match resOne T s r, resList T s l with | some v, some vs => some (v :: vs) | _, _ => Option.none
/-- What a function's end answers, as plain data of these kinds. -/
def retK (T : Tab) (rs : List ResultVar) (res : List Ty) (e : AExit) (s : AS) : Option (denL res) :=
  match e with
  | .exit _ => Option.none
  | _ => match resList T s rs with
    | some vs => toPureL s.mem res vs
    | Option.none => Option.none
def argVs : (l : List Ty) → denL l → List AV
  | [], _ => []
  | t :: r, x => .val t x.1 :: argVs r x.2
/-- A function's run at plain data. -/
def evF {R : Type} (E : EE) (fn : Func) (body : Code) (args : List Ty) (x : denL args) (K : AExit → AS → Option R) : Option R :=
  evC E fn.ntmps body R (initS (argVs args x) (fun _ => .none) 0) K


/-! ### Calls that are gone into -/
def solid : AV → Bool
  | .junk => false
  | .tup _ => false
  | .nil => false
  | .cons _ _ => false
  | _ => true
def resPack : List AV → Option AV
  | [v] => some v
  | l => match l.all solid with | true => some (.tup (AV.ofList l)) | false => Option.none
/-- Functions by their numbers: slots, results, code. -/
abbrev Bodies := List (Nat × Nat × List ResultVar × Code)
def bodyOf : Bodies → Nat → Option (Nat × List ResultVar × Code)
  | [], _ => Option.none
  | (i, b) :: r, n => match Nat.beq n i with | true => some b | false => bodyOf r n
def inlH (E : EE) (B : Bodies) (R : Type) (f : Nat) (vs : List AV) (m : Mem) (nx : Nat) (K : KO R) : Option R :=
  match bodyOf B f with
  | Option.none => Option.none
  | some (n, rs, body) => match Nat.ble vs.length n with
    | false => Option.none
    | true => evC E n body R (initS vs m nx) fun e s => match e with
      | .exit _ => Option.none
      | _ => match resList E.T s rs with
        | some l => match resPack l with
          | some v => K v s.mem s.nx
          | Option.none => Option.none
        | Option.none => Option.none

end Go.Co
