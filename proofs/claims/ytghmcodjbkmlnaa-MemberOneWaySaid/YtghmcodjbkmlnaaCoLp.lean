/-
  Loops: what a state at the head of a loop holds, told as data; the rounds as a function over such data.
  Own text, for the claims about coterie.
-/
import Derived.Test.YtghmcodjbkmlnaaCoEv
namespace Go.Co

/-! ### Rounds -/
def iter {X Z : Type} (f : X → Option (X ⊕ Z)) : Nat → X → Option Z
  | 0, _ => none
  | n + 1, x => match f x with
    | some (.inl x') => iter f n x'
    | some (.inr z) => some z
    | none => none
open Classical in
/-- What the rounds come to, if they come to an end. -/
noncomputable def lfp {X Z : Type} (f : X → Option (X ⊕ Z)) (x : X) : Option Z :=
  if h : ∃ n z, iter f n x = some z then some h.choose_spec.choose else none
theorem iter_more {X Z : Type} {f : X → Option (X ⊕ Z)} : ∀ {n m : Nat} {x : X} {z : Z}, iter f n x = some z → n ≤ m → iter f m x = some z
  | 0, _, _, _, h, _ => by simp [iter] at h
  | n + 1, 0, _, _, _, hle => by omega
  | n + 1, m + 1, x, z, h, hle => by
    simp only [iter] at h ⊢
    split at h
    · exact iter_more h (by omega)
    · exact h
    · cases h
theorem lfp_some {X Z : Type} {f : X → Option (X ⊕ Z)} {x : X} {z : Z} : lfp f x = some z ↔ ∃ n, iter f n x = some z := by
  unfold lfp
  constructor
  · intro h
    split at h
    · rename_i hx
      cases h
      exact ⟨_, hx.choose_spec.choose_spec⟩
    · cases h
  · rintro ⟨n, h⟩
    have hx : ∃ n z, iter f n x = some z := ⟨n, z, h⟩
    rw [dif_pos hx]
    have h1 := hx.choose_spec.choose_spec
    have h2 := iter_more h1 (Nat.le_max_left hx.choose n)
    have h3 := iter_more h (Nat.le_max_right hx.choose n)
    rw [h2] at h3; exact h3

theorem lfp_inl {X Z : Type} {f : X → Option (X ⊕ Z)} {x x' : X} (h : f x = some (.inl x')) : lfp f x = lfp f x' := by
  have key : ∀ z, lfp f x = some z ↔ lfp f x' = some z := by
    intro z
    rw [lfp_some, lfp_some]
    constructor
    · rintro ⟨n, hn⟩
      cases n with
      | zero => simp [iter] at hn
      | succ n => simp only [iter, h] at hn; exact ⟨n, hn⟩
    · rintro ⟨n, hn⟩
      exact ⟨n + 1, by simp only [iter, h]; exact hn⟩
  cases h1 : lfp f x with
  | some z => exact ((key z).1 h1).symm
  | none =>
    cases h2 : lfp f x' with
    | none => rfl
    | some z => rw [(key z).2 h2] at h1; cases h1
theorem lfp_inr {X Z : Type} {f : X → Option (X ⊕ Z)} {x : X} {z : Z} (h : f x = some (.inr z)) : lfp f x = some z := lfp_some.2 ⟨1, by simp only [iter, h]⟩

theorem lfp_none {X Z : Type} {f : X → Option (X ⊕ Z)} {x : X} (h : f x = none) : lfp f x = none := by
  cases hl : lfp f x with
  | none => rfl
  | some z =>
    obtain ⟨n, hn⟩ := lfp_some.1 hl
    cases n <;> simp [iter, h] at hn
theorem lfp_step {X Z : Type} (f : X → Option (X ⊕ Z)) (x : X) : lfp f x = (f x).elim none (Sum.elim (lfp f) some) := by
  cases h : f x with
  | none => exact lfp_none h
  | some r =>
    cases r with
    | inl x' => exact lfp_inl h
    | inr z => exact lfp_inr h

/-! ### Shapes of values: fixed parts and holes -/
inductive Sh where
  | junk
  | hole (t : Ty)
  /-- a row of its own -/
  | row (t : Ty)
  | eptr (t : Ty)
  | nils
  | ptr (b : Nat) (p : List PS)
  | mp (b : Nat)
  | asl (b : Nat) (p : List PS)
  | fn (f : Nat) (caps : List Nat)
  | nilp
  | agv (s : St) (l : Sh)
  | nil
  | cons (a l : Sh)
abbrev Sh.den : Sh → Type
  | .hole t => t.den
  | .row t => List t.den
  | .eptr t => t.den
  | .agv _ l => l.den
  | .cons a l => a.den × l.den
  | _ => Unit
def rowsIn : Sh → Nat
  | .row _ => 1
  | .agv _ l => rowsIn l
  | .cons a l => rowsIn a + rowsIn l
  | _ => 0
/-- The value; its rows' names are k and those behind it. -/
def mkAV : (sh : Sh) → Nat → sh.den → AV
  | .junk, _, _ => .junk
  | .hole t, _, x => .val t x
  | .row _, k, _ => .sl k
  | .eptr t, _, x => .eptr t x
  | .nils, _, _ => .nils
  | .ptr b p, _, _ => .ptr b p
  | .mp b, _, _ => .mp b
  | .asl b p, _, _ => .asl b p
  | .fn f c, _, _ => .fn f c
  | .nilp, _, _ => .nilp
  | .agv s l, k, x => .agv s (mkAV l k x)
  | .nil, _, _ => .nil
  | .cons a l, k, x => .cons (mkAV a k x.1) (mkAV l (k + rowsIn a) x.2)
def rowsX : (sh : Sh) → sh.den → List AB
  | .row t, x => [.slab t x]
  | .agv _ l, x => rowsX l x
  | .cons a l, x => catL (rowsX a x.1) (rowsX l x.2)
  | _, _ => []
def eqPS : PS → PS → Bool
  | .fld i, .fld j => Nat.beq i j
  | .idx i, .idx j => decide (i = j)
  | _, _ => false
def eqP : List PS → List PS → Bool
  | [], [] => true
  | a :: r, b :: s => eqPS a b && eqP r s
  | _, _ => false
def eqL : List Nat → List Nat → Bool
  | [], [] => true
  | a :: r, b :: s => Nat.beq a b && eqL r s
  | _, _ => false
def rowFree : AV → Bool
  | .sl _ => false
  | .asl _ _ => false
  | .agv _ l => rowFree l
  | .cons a l => rowFree a && rowFree l
  | _ => true
def plainTy : Ty → Bool
  | .unit | .prod _ _ => false
  | _ => true
/-- The holes' data, out of a value of the shape. -/
def rdAV : (sh : Sh) → Mem → AV → Option sh.den
  | .junk, _, _ => some ()
  | .hole t, m, v => match plainTy t, rowFree v with
    | true, true => toPure m v t
    | _, _ => none
  | .row t, m, v => match v with
    | .nils => some []
    | .sl b => match m b with
      | .slab e xs => cast? (.list e) (.list t) xs
      | _ => none
    | _ => none
  | .eptr t, _, v => match v with
    | .eptr u x => cast? u t x
    | _ => none
  | .nils, _, v => match v with | .nils => some () | _ => none
  | .ptr b p, _, v => match v with
    | .ptr b' p' => match Nat.beq b b', eqP p p' with | true, true => some () | _, _ => none
    | _ => none
  | .mp b, _, v => match v with
    | .mp b' => match Nat.beq b b' with | true => some () | false => none
    | _ => none
  | .asl b p, _, v => match v with
    | .asl b' p' => match Nat.beq b b', eqP p p' with | true, true => some () | _, _ => none
    | _ => none
  | .fn f c, _, v => match v with
    | .fn f' c' => match Nat.beq f f', eqL c c' with | true, true => some () | _, _ => none
    | _ => none
  | .nilp, _, v => match v with | .nilp => some () | _ => none
  | .agv s l, m, v => match v with
    | .agv s' l' => match Nat.beq s.no s'.no with | true => rdAV l m l' | false => none
    | _ => none
  | .nil, _, v => match v with | .nil => some () | _ => none
  | .cons a l, m, v => match v with
    | .cons b r => match rdAV a m b, rdAV l m r with | some x, some y => some (x, y) | _, _ => none
    | _ => none
/-- The rows that lie in the places of a shape's. -/
def rdRows : Sh → AV → List (Ty × Option Nat)
  | .row t, v => match v with
    | .sl b => [(t, some b)]
    | _ => [(t, none)]
  | .agv _ l, v => match v with
    | .agv _ l' => rdRows l l'
    | _ => []
  | .cons a l, v => match v with
    | .cons b r => catL (rdRows a b) (rdRows l r)
    | _ => []
  | _, _ => []
def shBelow (n : Nat) : Sh → Bool
  | .ptr b _ => Nat.blt b n
  | .mp b => Nat.blt b n
  | .asl b _ => Nat.blt b n
  | .fn _ c => c.all (Nat.blt · n)
  | .agv _ l => shBelow n l
  | .cons a l => shBelow n a && shBelow n l
  | .junk => false
  | _ => true

/-! ### What a state holds -/
structure SD where
  /-- slots -/
  sl : List (Nat × Sh)
  /-- variables -/
  vr : List (Nat × Ty × Sh)
  /-- maps -/
  mp : List (Nat × Ty × Ty)
abbrev denSl : List (Nat × Sh) → Type
  | [] => Unit
  | (_, sh) :: r => sh.den × denSl r
abbrev denVr : List (Nat × Ty × Sh) → Type
  | [] => Unit
  | (_, _, sh) :: r => sh.den × denVr r
abbrev denMp : List (Nat × Ty × Ty) → Type
  | [] => Unit
  | (_, k, v) :: r => List (k.den × v.den) × denMp r
abbrev SD.den (D : SD) : Type := denSl D.sl × denVr D.vr × denMp D.mp
def rowsSl : List (Nat × Sh) → Nat
  | [] => 0
  | (_, sh) :: r => rowsIn sh + rowsSl r
def rowsVr : List (Nat × Ty × Sh) → Nat
  | [] => 0
  | (_, _, sh) :: r => rowsIn sh + rowsVr r
def mkSl : (l : List (Nat × Sh)) → Nat → denSl l → Nat → AV
  | [], _, _, _ => .junk
  | (i, sh) :: r, k, x, j => match Nat.beq j i with | true => mkAV sh k x.1 | false => mkSl r (k + rowsIn sh) x.2 j
def mkVr : (l : List (Nat × Ty × Sh)) → Nat → denVr l → Nat → AB
  | [], _, _, _ => .none
  | (i, t, sh) :: r, k, x, j => match Nat.beq j i with | true => .var t (mkAV sh k x.1) | false => mkVr r (k + rowsIn sh) x.2 j
def mkMp : (l : List (Nat × Ty × Ty)) → denMp l → Nat → AB
  | [], _, _ => .none
  | (i, k, v) :: r, x, j => match Nat.beq j i with | true => .map k v x.1 | false => mkMp r x.2 j
def rowsSlX : (l : List (Nat × Sh)) → denSl l → List AB
  | [], _ => []
  | (_, sh) :: r, x => catL (rowsX sh x.1) (rowsSlX r x.2)
def rowsVrX : (l : List (Nat × Ty × Sh)) → denVr l → List AB
  | [], _ => []
  | (_, _, sh) :: r, x => catL (rowsX sh x.1) (rowsVrX r x.2)
def nthB : List AB → Nat → AB
  | [], _ => .none
  | a :: _, 0 => a
  | _ :: r, i + 1 => nthB r i
def mkMem (D : SD) (base : Nat) (x : D.den) (b : Nat) : AB :=
  match Nat.ble base b with
  | true => nthB (catL (rowsSlX D.sl x.1) (rowsVrX D.vr x.2.1)) (b - base)
  | false => match mkVr D.vr (base + rowsSl D.sl) x.2.1 b with
    | .none => mkMp D.mp x.2.2 b
    | y => y
def SD.rows (D : SD) : Nat := rowsSl D.sl + rowsVr D.vr
def mkD (D : SD) (base nx : Nat) (x : D.den) : AS := ⟨mkSl D.sl base x.1, mkMem D base x, nx⟩
def rdSl : (l : List (Nat × Sh)) → AS → Option (denSl l)
  | [], _ => some ()
  | (i, sh) :: r, s => match rdAV sh s.mem (s.slots i), rdSl r s with | some x, some y => some (x, y) | _, _ => none
def rdVr : (l : List (Nat × Ty × Sh)) → Nat → AS → Option (denVr l)
  | [], _, _ => some ()
  | (b, t, sh) :: r, k, s => match s.mem b with
    | .var u v => match Ty.eqb u t, rdAV sh s.mem v with
      | true, some x => match (mkAV sh k x).has t, rdVr r (k + rowsIn sh) s with | true, some y => some (x, y) | _, _ => none
      | _, _ => none
    | _ => none
def castM (k v k' v' : Ty) (l : List (k.den × v.den)) : Option (List (k'.den × v'.den)) := cast? (.list (.prod k v)) (.list (.prod k' v')) l
def rdMp : (l : List (Nat × Ty × Ty)) → AS → Option (denMp l)
  | [], _ => some ()
  | (b, k, v) :: r, s => match s.mem b with
    | .map k' v' l => match castM k' v' k v l, rdMp r s with | some x, some y => some (x, y) | _, _ => none
    | _ => none
def rdRowsSl : List (Nat × Sh) → AS → List (Ty × Option Nat)
  | [], _ => []
  | (i, sh) :: r, s => catL (rdRows sh (s.slots i)) (rdRowsSl r s)
def rdRowsVr : List (Nat × Ty × Sh) → AS → List (Ty × Option Nat)
  | [], _ => []
  | (b, _, sh) :: r, s => catL (match s.mem b with | .var _ v => rdRows sh v | _ => []) (rdRowsVr r s)
def inNames : List (Ty × Option Nat) → Nat → Bool
  | [], _ => false
  | (_, some a) :: r, b => Nat.beq a b || inNames r b
  | (_, none) :: r, b => inNames r b
def nodupN : List (Ty × Option Nat) → Bool
  | [] => true
  | (_, some a) :: r => !inNames r a && nodupN r
  | (_, none) :: r => nodupN r
def belowSD (n : Nat) (D : SD) : Bool := D.sl.all (fun e => shBelow n e.2) && D.vr.all (fun e => Nat.blt e.1 n && shBelow n e.2.2) && D.mp.all (fun e => Nat.blt e.1 n)
/-- The holes' data, out of a state. -/
def rdD (D : SD) (base : Nat) (s : AS) : Option D.den :=
  match belowSD base D && nodupN (catL (rdRowsSl D.sl s) (rdRowsVr D.vr s)), rdSl D.sl s, rdVr D.vr (base + rowsSl D.sl) s, rdMp D.mp s with
  | true, some x, some y, some z => some (x, y, z)
  | _, _, _, _ => none

/-! ### Rows that nobody writes from now on -/
def sbAV (b : Nat) (t : Ty) (xs : List t.den) : AV → AV
  | .sl c => match Nat.beq c b with | true => .val (.list t) xs | false => .sl c
  | v => v
def sbAB (b : Nat) (t : Ty) (xs : List t.den) : AB → AB
  | .var u (.sl c) => match Nat.beq c b, Ty.eqb (.list t) u with | true, true => .var u (.val (.list t) xs) | _, _ => .var u (.sl c)
  | y => y
def frz (b : Nat) (s : AS) : AS :=
  match s.mem b with
  | .slab t xs => ⟨fun j => sbAV b t xs (s.slots j), fun j => match Nat.beq j b with | true => .dead | false => sbAB b t xs (s.mem j), s.nx⟩
  | _ => s
/-- The place is for a plain list, and a row lies there. -/
def frzAt : Sh → AV → AS → AS
  | .hole (.list _), .sl b, s => frz b s
  | _, _, s => s
def frzSl : List (Nat × Sh) → AS → AS
  | [], s => s
  | (i, sh) :: r, s => frzSl r (frzAt sh (s.slots i) s)
def frzVr : List (Nat × Ty × Sh) → AS → AS
  | [], s => s
  | (b, _, sh) :: r, s => frzVr r (match s.mem b with | .var _ v => frzAt sh v s | _ => s)
def frzD (D : SD) (s : AS) : AS := frzVr D.vr (frzSl D.sl s)
/-- The holes' data out of a state whose rows are let go where the holes are plain. -/
def rdF (D : SD) (base : Nat) (s : AS) : Option D.den := rdD D base (frzD D s)

/-! ### Ways out of a loop -/
inductive XK where
  | ret
  | exit (id : Nat)
def XK.is : XK → AExit → Bool
  | .ret, .ret => true
  | .exit i, .exit j => Nat.beq i j
  | _, _ => false
def XK.to : XK → AExit
  | .ret => .ret
  | .exit i => .exit i
abbrev denE : List (XK × SD) → Type
  | [] => Empty
  | [(_, D)] => D.den
  | (_, D) :: e :: r => D.den ⊕ denE (e :: r)
def rdE : (l : List (XK × SD)) → Nat → AExit → AS → Option (denE l)
  | [], _, _, _ => none
  | [(k, D)], base, e, s => match k.is e with | true => rdF D base s | false => none
  | (k, D) :: e' :: r, base, e, s => match (match k.is e with | true => rdF D base s | false => none) with
    | some x => some (.inl x)
    | none => match rdE (e' :: r) base e s with
      | some z => some (.inr z)
      | none => none
def contE {R : Type} : (l : List (XK × SD)) → Nat → Nat → denE l → (AExit → AS → Option R) → Option R
  | [], _, _, _, _ => none
  | [(k, D)], base, nx, x, K => K k.to (mkD D base nx x)
  | (k, D) :: e :: r, base, nx, x, K => Sum.elim (fun x => K k.to (mkD D base nx x)) (fun z => contE (e :: r) base nx z K) x
structure LD where
  hd : SD
  outs : List (XK × SD)
  /-- names for a round's own -/
  room : Nat
def ldOf : List (Nat × LD) → Nat → Option LD
  | [], _ => none
  | (i, d) :: r, n => match Nat.beq n i with | true => some d | false => ldOf r n
def roundK (d : LD) (base : Nat) (e : AExit) (s : AS) : Option (d.hd.den ⊕ denE d.outs) :=
  match Nat.ble s.nx (base + d.room) with
  | false => none
  | true => match e with
    | .normal => match rdF d.hd base s with
      | some x => some (.inl x)
      | none => none
    | e => match rdE d.outs base e s with
      | some z => some (.inr z)
      | none => none
def roomy (d : LD) : Bool := Nat.ble d.hd.rows d.room && d.outs.all fun e => Nat.ble e.2.rows d.room
/-- A loop of which a line of the list tells. -/
noncomputable def lpH (L : List (Nat × LD)) (id : Nat) (ev : (R : Type) → AS → (AExit → AS → Option R) → Option R) (R : Type) (s : AS) (K : AExit → AS → Option R) : Option R :=
  match ldOf L id with
  | none => none
  | some d => match roomy d, rdF d.hd s.nx s with
    | true, some x => (lfp (fun x => ev (d.hd.den ⊕ denE d.outs) (mkD d.hd s.nx (s.nx + d.hd.rows) x) (roundK d s.nx)) x).bind fun z => contE d.outs s.nx (s.nx + d.room) z K
    | _, _ => none
end Go.Co
