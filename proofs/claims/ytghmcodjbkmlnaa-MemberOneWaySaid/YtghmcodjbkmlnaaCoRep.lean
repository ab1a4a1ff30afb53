/-
  What it means that memory and a frame fit an abstract state: plain data as cells, slots, variables, rows, maps.
  Own text, for the claims about coterie.
-/
import Derived.Test.YtghmcodjbkmlnaaCoEv
import Derived.Below
import Derived.Laws.CopyRow
namespace Go.Co
open Go.RowKit

/-! ### Weights of kinds, and induction over them -/
theorem St.wt_body (s : St) : s.body.wt < s.wt := by cases s <;> decide
theorem Ty.ind {P : Ty → Prop} (int : ∀ k, P (.int k)) (bool : P .bool) (str : P .str) (unit : P .unit) (prod : ∀ a b, P a → P b → P (.prod a b))
    (arr : ∀ n t, P t → P (.arr n t)) (list : ∀ t, P t → P (.list t)) (st : ∀ s : St, P s.body → P (.st s)) : ∀ t, P t := by
  have key : ∀ n t, Ty.wt t ≤ n → P t := by
    intro n
    induction n with
    | zero =>
      intro t h
      cases t with
      | st s => have := St.wt_body s; simp [Ty.wt] at h; omega
      | _ => simp [Ty.wt] at h
    | succ n ih =>
      intro t h
      cases t with
      | int k => exact int k
      | bool => exact bool
      | str => exact str
      | unit => exact unit
      | prod a b => simp [Ty.wt] at h; exact prod a b (ih a (by omega)) (ih b (by omega))
      | arr n t => simp [Ty.wt] at h; exact arr n t (ih t (by omega))
      | list t => simp [Ty.wt] at h; exact list t (ih t (by omega))
      | st s => simp [Ty.wt] at h; exact st s (ih _ (by have := St.wt_body s; omega))
  exact fun t => key _ t (Nat.le_refl _)

/-! ### Lists side by side -/
def All2 {α β : Type} (R : α → β → Prop) : List α → List β → Prop
  | [], [] => True
  | x :: xs, y :: ys => R x y ∧ All2 R xs ys
  | _, _ => False
theorem All2.length {α β : Type} {R : α → β → Prop} : ∀ {xs : List α} {ys : List β}, All2 R xs ys → xs.length = ys.length
  | [], [], _ => rfl
  | _ :: _, _ :: _, h => by simp [All2.length h.2]
theorem All2.mono {α β : Type} {R S : α → β → Prop} (hs : ∀ x y, R x y → S x y) : ∀ {xs : List α} {ys : List β}, All2 R xs ys → All2 S xs ys
  | [], [], _ => trivial
  | _ :: _, _ :: _, h => ⟨hs _ _ h.1, All2.mono hs h.2⟩
theorem All2.get {α β : Type} {R : α → β → Prop} : ∀ {xs : List α} {ys : List β} (_ : All2 R xs ys) (i : Nat) (x : α), xs[i]? = some x → ∃ y, ys[i]? = some y ∧ R x y
  | [], [], _, i, x, h => by simp at h
  | a :: xs, b :: ys, h, 0, x, hx => by simp at hx; subst hx; exact ⟨b, by simp, h.1⟩
  | a :: xs, b :: ys, h, i + 1, x, hx => by
    simp at hx
    obtain ⟨y, hy, hr⟩ := All2.get h.2 i x hx
    exact ⟨y, by simpa using hy, hr⟩
theorem All2.append {α β : Type} {R : α → β → Prop} : ∀ {xs : List α} {ys : List β} {xs' : List α} {ys' : List β}, All2 R xs ys → All2 R xs' ys' → All2 R (xs ++ xs') (ys ++ ys')
  | [], [], _, _, _, h' => h'
  | _ :: _, _ :: _, _, _, h, h' => ⟨h.1, All2.append h.2 h'⟩
theorem All2.set {α β : Type} {R : α → β → Prop} {x : α} {y : β} (h' : R x y) : ∀ {xs : List α} {ys : List β} (i : Nat), All2 R xs ys → All2 R (xs.set i x) (ys.set i y)
  | [], [], _, _ => trivial
  | _ :: _, _ :: _, 0, h => ⟨h', h.2⟩
  | _ :: _, _ :: _, i + 1, h => ⟨h.1, All2.set h' i h.2⟩
theorem All2.take {α β : Type} {R : α → β → Prop} : ∀ {xs : List α} {ys : List β} (i : Nat), All2 R xs ys → All2 R (xs.take i) (ys.take i)
  | _, _, 0, _ => by simp [All2]
  | [], [], i + 1, _ => by simp [All2]
  | _ :: _, _ :: _, i + 1, h => by simp only [List.take_succ_cons]; exact ⟨h.1, All2.take i h.2⟩
theorem All2.drop {α β : Type} {R : α → β → Prop} : ∀ {xs : List α} {ys : List β} (i : Nat), All2 R xs ys → All2 R (xs.drop i) (ys.drop i)
  | _, _, 0, h => by simpa using h
  | [], [], i + 1, _ => by simp [All2]
  | _ :: _, _ :: _, i + 1, h => by simp only [List.drop_succ_cons]; exact All2.drop i h.2
theorem All2.replicate {α β : Type} {R : α → β → Prop} {x : α} {y : β} (h : R x y) : ∀ n, All2 R (List.replicate n x) (List.replicate n y)
  | 0 => trivial
  | n + 1 => ⟨h, All2.replicate h n⟩
/-- Rows of one width, one behind the other. -/
theorem flatten_len {α : Type} {n : Nat} : ∀ {l : List (List α)}, (∀ c ∈ l, c.length = n) → l.flatten.length = l.length * n
  | [], _ => by simp
  | c :: l, h => by
    have := flatten_len (l := l) (fun d hd => h d (by simp [hd]))
    simp [h c (by simp), this, Nat.add_mul]; omega
theorem flatten_take {α : Type} {n : Nat} : ∀ {l : List (List α)} (i : Nat), (∀ c ∈ l, c.length = n) → (l.take i).flatten = l.flatten.take (i * n)
  | [], i, _ => by simp
  | c :: l, 0, _ => by simp
  | c :: l, i + 1, h => by
    have := flatten_take (l := l) i (fun d hd => h d (by simp [hd]))
    have hc := h c (by simp)
    simp only [List.take_succ_cons, List.flatten_cons, this]
    have e1 : c.take ((i + 1) * n) = c := List.take_of_length_le (by rw [hc, Nat.add_mul]; omega)
    rw [List.take_append, e1, hc, show (i + 1) * n - n = i * n by rw [Nat.add_mul]; omega]
theorem flatten_drop {α : Type} {n : Nat} : ∀ {l : List (List α)} (i : Nat), (∀ c ∈ l, c.length = n) → (l.drop i).flatten = l.flatten.drop (i * n)
  | [], i, _ => by simp
  | c :: l, 0, _ => by simp
  | c :: l, i + 1, h => by
    have := flatten_drop (l := l) i (fun d hd => h d (by simp [hd]))
    have hc := h c (by simp)
    simp only [List.drop_succ_cons, List.flatten_cons, this]
    have e1 : c.drop ((i + 1) * n) = [] := List.drop_of_length_le (by rw [hc, Nat.add_mul]; omega)
    rw [List.drop_append, e1, hc, show (i + 1) * n - n = i * n by rw [Nat.add_mul]; omega]
    simp
theorem flatten_at {α : Type} {n : Nat} {l : List (List α)} {i : Nat} {c : List α} (h : ∀ c ∈ l, c.length = n) (hc : l[i]? = some c) :
    l.flatten = l.flatten.take (i * n) ++ c ++ l.flatten.drop (i * n + n) := by
  have hi : i < l.length := (List.getElem?_eq_some_iff.1 hc).1
  have e : l = l.take i ++ [c] ++ l.drop (i + 1) := by
    have := List.getElem?_eq_some_iff.1 hc
    obtain ⟨_, h2⟩ := this
    rw [← h2]; simp
  have h1 := flatten_take i h
  have h2 := flatten_drop (i + 1) h
  rw [Nat.add_mul, Nat.one_mul] at h2
  rw [← h1, ← h2]
  conv => lhs; rw [e]
  simp
theorem flatten_set {α : Type} {n : Nat} {l : List (List α)} {i : Nat} {c : List α} (h : ∀ c ∈ l, c.length = n) (hi : i < l.length) :
    (l.set i c).flatten = l.flatten.take (i * n) ++ c ++ l.flatten.drop (i * n + n) := by
  have h1 := flatten_take i h
  have h2 := flatten_drop (i + 1) h
  rw [Nat.add_mul, Nat.one_mul] at h2
  rw [← h1, ← h2]
  have e : l.set i c = l.take i ++ [c] ++ l.drop (i + 1) := by
    rw [List.set_eq_take_append_cons_drop, if_pos hi]; simp
  rw [e]; simp

/-! ### Plain data as cells -/
/-- A value of the cells. -/
def pk (g : Bool) (cs : List Value) : Value :=
  match g with
  | true => .agg cs.toArray
  | false => cs.headD undef
theorem pk_cells {g : Bool} {cs : List Value} (h : g = false → cs.length = 1 ∧ ∀ c ∈ cs, c.oneCell' = true) : (pk g cs).cells.toList = cs := by
  cases g with
  | true => simp [pk, Value.cells]
  | false =>
    obtain ⟨h1, h2⟩ := h rfl
    match cs, h1 with
    | [c], _ =>
      have := h2 c (by simp)
      cases c <;> simp_all [pk, Value.cells, Value.oneCell']

/-- The cells of plain data: x's, in the world w, where 'im' are the blocks that nobody writes. -/
def Rd (w : World) (im : Nat → Prop) : (t : Ty) → t.den → List Value → Prop
  | .int k, n, cs => cs = [.int k n] ∧ inKind k n = true
  | .bool, b, cs => cs = [.bool b]
  | .str, s, cs => cs = [.string s] ∧ s.size ≤ top
  | .unit, _, cs => cs = []
  | .prod a b, x, cs => ∃ c d, cs = c ++ d ∧ Rd w im a x.1 c ∧ Rd w im b x.2 d
  | .arr n t, x, cs => ∃ css : List (List Value), cs = css.flatten ∧ All2 (fun y c => Rd w im t y c) (Vector.toList x) css
  | .list t, xs, cs => List.length xs * t.bytes ≤ top ∧ ((cs = [.slice none 0 0] ∧ xs = []) ∨
      ∃ a cap css, cs = [.slice (some a) (List.length xs) cap] ∧ (xs ≠ [] → a.spot = none) ∧ List.length xs ≤ cap ∧ cap ≤ maxLen ∧ All2 (fun y c => Rd w im t y c) xs css ∧ (xs ≠ [] → im a.block) ∧
        ∀ j v, css.flatten[j]? = some v → w.cell? ⟨a.block, a.off + j, none⟩ = some v)
  | .st s, x, cs => Rd w im s.body (s.unpack x) cs
termination_by t => t.wt
decreasing_by
  all_goals first
    | (simp only [Ty.wt]; omega)
    | (simp only [Ty.wt]; exact St.wt_body _)

section
variable {w : World} {im : Nat → Prop}
theorem Rd.int {k : IntKind} {n : Int} {cs : List Value} : Rd w im (.int k) n cs ↔ cs = [.int k n] ∧ inKind k n = true := by rw [Rd]
theorem Rd.bool {b : Bool} {cs : List Value} : Rd w im .bool b cs ↔ cs = [.bool b] := by rw [Rd]
theorem Rd.str {s : ByteArray} {cs : List Value} : Rd w im .str s cs ↔ cs = [.string s] ∧ s.size ≤ top := by rw [Rd]
theorem Rd.unit {x : Unit} {cs : List Value} : Rd w im .unit x cs ↔ cs = [] := by rw [Rd]
theorem Rd.prod {a b : Ty} {x : a.den × b.den} {cs : List Value} : Rd w im (.prod a b) x cs ↔ ∃ c d, cs = c ++ d ∧ Rd w im a x.1 c ∧ Rd w im b x.2 d := by rw [Rd]
theorem Rd.arr {n : Nat} {t : Ty} {x : Arr n t.den} {cs : List Value} : Rd w im (.arr n t) x cs ↔ ∃ css : List (List Value), cs = css.flatten ∧ All2 (Rd w im t) (Vector.toList x) css := by
  rw [Rd]
theorem Rd.list {t : Ty} {xs : List t.den} {cs : List Value} : Rd w im (.list t) xs cs ↔ List.length xs * t.bytes ≤ top ∧ ((cs = [.slice none 0 0] ∧ xs = []) ∨
      ∃ a cap css, cs = [.slice (some a) (List.length xs) cap] ∧ (xs ≠ [] → a.spot = none) ∧ List.length xs ≤ cap ∧ cap ≤ maxLen ∧ All2 (Rd w im t) xs css ∧ (xs ≠ [] → im a.block) ∧
        ∀ j v, css.flatten[j]? = some v → w.cell? ⟨a.block, a.off + j, none⟩ = some v) := by
  rw [Rd]
theorem Rd.st {s : St} {x : s.den} {cs : List Value} : Rd w im (.st s) x cs ↔ Rd w im s.body (s.unpack x) cs := by rw [Rd]
end

/-- As many cells as the kind has. -/
theorem Rd.len {w : World} {im : Nat → Prop} : ∀ (t : Ty) (x : t.den) (cs : List Value), Rd w im t x cs → cs.length = t.size := by
  refine Ty.ind ?_ ?_ ?_ ?_ ?_ ?_ ?_ ?_
  · intro k x cs h; rw [Rd.int] at h; simp [h.1, Ty.size]
  · intro x cs h; rw [Rd.bool] at h; simp [h, Ty.size]
  · intro x cs h; rw [Rd.str] at h; simp [h.1, Ty.size]
  · intro x cs h; rw [Rd.unit] at h; simp [h, Ty.size]
  · intro a b iha ihb x cs h; rw [Rd.prod] at h; obtain ⟨c, d, rfl, hc, hd⟩ := h; simp [Ty.size, iha _ _ hc, ihb _ _ hd]
  · intro n t ih x cs h
    rw [Rd.arr] at h; obtain ⟨css, rfl, hall⟩ := h
    have hl := hall.length
    rw [flatten_len (n := t.size)]
    · rw [← hl]; simp [Ty.size]
    · intro c hc
      obtain ⟨i, hi⟩ := List.getElem?_of_mem hc
      have hlt : i < (Vector.toList x).length := by rw [hl]; exact (List.getElem?_eq_some_iff.1 hi).1
      obtain ⟨y, hy, hr⟩ := hall.get i _ (List.getElem?_eq_getElem hlt)
      rw [hi] at hy; cases hy
      exact ih _ _ hr
  · intro t ih x cs h
    rw [Rd.list] at h; obtain ⟨_, h⟩ := h
    rcases h with ⟨rfl, _⟩ | ⟨a, cap, css, rfl, _⟩ <;> simp [Ty.size]
  · intro s ih x cs h
    rw [Rd.st] at h; rw [ih _ _ h, St.size_body]; rfl
theorem All2.lens {w : World} {im : Nat → Prop} {t : Ty} {xs : List t.den} {css : List (List Value)} (h : All2 (Rd w im t) xs css) : ∀ c ∈ css, c.length = t.size := by
  intro c hc
  obtain ⟨i, hi⟩ := List.getElem?_of_mem hc
  have hlt : i < xs.length := by rw [h.length]; exact (List.getElem?_eq_some_iff.1 hi).1
  obtain ⟨y, hy, hr⟩ := h.get i _ (List.getElem?_eq_getElem hlt)
  rw [hi] at hy; cases hy
  exact Rd.len _ _ _ hr
/-- Each cell holds one value. -/
theorem Rd.one {w : World} {im : Nat → Prop} : ∀ (t : Ty) (x : t.den) (cs : List Value), Rd w im t x cs → ∀ c ∈ cs, c.oneCell' = true := by
  refine Ty.ind ?_ ?_ ?_ ?_ ?_ ?_ ?_ ?_
  · intro k x cs h; rw [Rd.int] at h; simp [h.1, Value.oneCell']
  · intro x cs h; rw [Rd.bool] at h; simp [h, Value.oneCell']
  · intro x cs h; rw [Rd.str] at h; simp [h.1, Value.oneCell']
  · intro x cs h; rw [Rd.unit] at h; simp [h]
  · intro a b iha ihb x cs h; rw [Rd.prod] at h; obtain ⟨c, d, rfl, hc, hd⟩ := h
    intro v hv; rcases List.mem_append.1 hv with hv | hv
    · exact iha _ _ hc v hv
    · exact ihb _ _ hd v hv
  · intro n t ih x cs h
    rw [Rd.arr] at h; obtain ⟨css, rfl, hall⟩ := h
    intro v hv
    obtain ⟨c, hc, hv⟩ := List.mem_flatten.1 hv
    obtain ⟨i, hi⟩ := List.getElem?_of_mem hc
    have hlt : i < (Vector.toList x).length := by rw [hall.length]; exact (List.getElem?_eq_some_iff.1 hi).1
    obtain ⟨y, hy, hr⟩ := hall.get i _ (List.getElem?_eq_getElem hlt)
    rw [hi] at hy; cases hy
    exact ih _ _ hr v hv
  · intro t ih x cs h
    rw [Rd.list] at h; obtain ⟨_, h⟩ := h
    rcases h with ⟨rfl, _⟩ | ⟨a, cap, css, rfl, _⟩ <;> simp [Value.oneCell']
  · intro s ih x cs h
    rw [Rd.st] at h; exact ih _ _ h
/-- What is read stays so while the blocks that nobody writes stay. -/
theorem Rd.mono {w w' : World} {im im' : Nat → Prop} (hm : ∀ k, im k → im' k ∧ w'.heap[k]? = w.heap[k]?) : ∀ (t : Ty) (x : t.den) (cs : List Value), Rd w im t x cs → Rd w' im' t x cs := by
  refine Ty.ind ?_ ?_ ?_ ?_ ?_ ?_ ?_ ?_
  · intro k x cs h; rw [Rd.int] at *; exact h
  · intro x cs h; rw [Rd.bool] at *; exact h
  · intro x cs h; rw [Rd.str] at *; exact h
  · intro x cs h; rw [Rd.unit] at *; exact h
  · intro a b iha ihb x cs h; rw [Rd.prod] at *; obtain ⟨c, d, e, hc, hd⟩ := h; exact ⟨c, d, e, iha _ _ hc, ihb _ _ hd⟩
  · intro n t ih x cs h
    rw [Rd.arr] at *; obtain ⟨css, e, hall⟩ := h
    exact ⟨css, e, hall.mono fun y c => ih y c⟩
  · intro t ih xs cs h
    rw [Rd.list] at *; obtain ⟨hb, h⟩ := h
    refine ⟨hb, ?_⟩
    rcases h with h | ⟨a, cap, css, e, hs, hl, hc, hall, hi, hcell⟩
    · exact .inl h
    · refine .inr ⟨a, cap, css, e, hs, hl, hc, hall.mono fun y c => ih y c, fun hne => (hm _ (hi hne)).1, fun j v hv => ?_⟩
      have hne : xs ≠ [] := by
        rintro rfl
        have := hall.length
        have : css = [] := List.length_eq_zero_iff.1 (by simpa using this.symm)
        subst this; simp at hv
      have := hcell j v hv
      have hh := (hm _ (hi hne)).2
      unfold World.cell? at *
      simp only [hh]; exact this
  · intro s ih x cs h
    rw [Rd.st] at *; exact ih _ _ h

theorem Rd.single {w : World} {im : Nat → Prop} {t : Ty} {x : t.den} {cs : List Value} (h : Rd w im t x cs) (hg : t.agg = false) : ∃ c, cs = [c] := by
  cases t <;> simp [Ty.agg] at hg
  · rw [Rd.int] at h; exact ⟨_, h.1⟩
  · rw [Rd.bool] at h; exact ⟨_, h⟩
  · rw [Rd.str] at h; exact ⟨_, h.1⟩
  · rw [Rd.list] at h
    obtain ⟨_, h⟩ := h
    rcases h with ⟨rfl, _⟩ | ⟨a, cap, css, rfl, _⟩ <;> exact ⟨_, rfl⟩
theorem Rd.cells {w : World} {im : Nat → Prop} {t : Ty} {x : t.den} {cs : List Value} (h : Rd w im t x cs) : (pk t.agg cs).cells.toList = cs :=
  pk_cells fun hg => by
    obtain ⟨c, rfl⟩ := h.single hg
    exact ⟨rfl, Rd.one _ _ _ h⟩

/-! ### Where names lie; slots -/
inductive BT where
  | var (base : Nat) (t : Ty)
  | slab (base : Nat) (t : Ty) (cap len : Nat)
  | nilslab (t : Ty)
  | map (base : Nat) (k v : Ty)
def BT.base : BT → Option Nat
  | .var b _ => some b
  | .slab b _ _ _ => some b
  | .nilslab _ => none
  | .map b _ _ => some b

structure Env where
  ρ : Nat → Option BT
  w : World
  imm : Nat → Prop

/-- The part of a block to which a way leads: its kind and cell. -/
def partAt : BT → List PS → Ty → Nat → Prop
  | .var _ t, p, u, o => tyAt t p = some (u, o) ∧ inRange t p
  | .slab _ t _ len, .idx i :: p, u, o => ∃ q, tyAt t p = some (u, q) ∧ o = i.toNat * t.size + q ∧ 0 ≤ i ∧ i < len ∧ inRange t p
  | _, _, _, _ => False

def capsRel (ρ : Nat → Option BT) : List Nat → List Value → Prop
  | [], [] => True
  | b :: l, v :: vs => (∃ base t, ρ b = some (.var base t) ∧ v = .pointer (some ⟨base, 0, none⟩)) ∧ capsRel ρ l vs
  | _, _ => False

def AV.isAgg : AV → Bool
  | .val t _ => t.agg
  | .agv _ _ => true
  | _ => false

/-- The cells of a value. -/
def RC (E : Env) : AV → List Value → Prop
  | .val t x, cs => Rd E.w E.imm t x cs
  | .nils, cs => cs = [.slice none 0 0]
  | .eptr t x, cs => ∃ a c, cs = [.pointer (some a)] ∧ a.spot = none ∧ E.imm a.block ∧ Rd E.w E.imm t x c ∧ ∀ j v, c[j]? = some v → E.w.cell? ⟨a.block, a.off + j, none⟩ = some v
  | .ptr b p, cs => ∃ bt k u o, E.ρ b = some bt ∧ bt.base = some k ∧ partAt bt p u o ∧ cs = [.pointer (some ⟨k, o, none⟩)]
  | .sl b, cs => (∃ t, E.ρ b = some (.nilslab t) ∧ cs = [.slice none 0 0]) ∨ ∃ k t cap len, E.ρ b = some (.slab k t cap len) ∧ cs = [.slice (some ⟨k, 0, none⟩) len cap]
  | .asl b p, cs => ∃ k t n u o, E.ρ b = some (.var k t) ∧ tyAt t p = some (.arr n u, o) ∧ inRange t p ∧ n * u.bytes ≤ top ∧ n ≤ maxLen ∧ cs = [.slice (some ⟨k, o, none⟩) n n]
  | .mp b, cs => ∃ k x y, E.ρ b = some (.map k x y) ∧ cs = [.map (some k)]
  | .fn f caps, cs => ∃ vs, capsRel E.ρ caps vs ∧ cs = [.func (.func f) #[] vs.toArray]
  | .nilp, cs => cs = [.pointer none]
  | .agv _ l, cs => RC E l cs
  | .nil, cs => cs = []
  | .cons a l, cs => ∃ c d, cs = c ++ d ∧ RC E a c ∧ RC E l d
  | .junk, _ => False
  | .tup _, _ => False
/-- A list of values, each by itself. -/
def RVs (E : Env) : AV → List Value → Prop
  | .nil, vs => vs = []
  | .cons a l, vs => ∃ cs r, vs = pk a.isAgg cs :: r ∧ RC E a cs ∧ RVs E l r
  | _, _ => False
/-- What stands in a slot. -/
def RV (E : Env) : AV → Value → Prop
  | .junk, _ => True
  | .tup l, v => ∃ vs, v = .tuple vs.toArray ∧ RVs E l vs
  | a, v => ∃ cs, v = pk a.isAgg cs ∧ RC E a cs

/-! ### Memory -/
/-- An entry of a map: its key, its value. -/
def RE (E : Env) (k v : Ty) (e : k.den × v.den) (m : MapEntry) : Prop :=
  (∃ c, m.key = pk k.agg c ∧ Rd E.w E.imm k e.1 c) ∧ ∃ c, m.val = pk v.agg c ∧ Rd E.w E.imm v e.2 c
def RM (E : Env) (b : Nat) : AB → Prop
  | .none => True
  | .dead => True
  | .var t v => v.has t = true ∧ ∃ k cs el, E.ρ b = some (.var k t) ∧ E.w.heap[k]? = some (.cells cs el (0, 0)) ∧ RC E v cs.toList
  | .slab t xs => List.length xs * t.bytes ≤ top ∧ ((E.ρ b = some (.nilslab t) ∧ xs = []) ∨
      ∃ k cap cs el css rest, E.ρ b = some (.slab k t cap (List.length xs)) ∧ E.w.heap[k]? = some (.cells cs el (0, 0)) ∧ cs.size = cap * t.size ∧ List.length xs ≤ cap ∧ cap ≤ maxLen ∧
        All2 (Rd E.w E.imm t) xs css ∧ cs.toList = css.flatten ++ rest)
  | .map k v m => ∃ base es clock, E.ρ b = some (.map base k v) ∧ E.w.heap[base]? = some (.map es clock) ∧ All2 (RE E k v) m es.toList ∧ (∀ e ∈ es, e.born < clock) ∧ (es.toList.map (·.born)).Nodup
def live : AB → Prop
  | .none => False
  | .dead => False
  | _ => True
/-- Block k is one of the variables'. -/
def owns (E : Env) (m : Mem) (k : Nat) : Prop := ∃ b bt, live (m b) ∧ E.ρ b = some bt ∧ bt.base = some k

/-- Nothing of old has turned below n; no block is frozen that wasn't. -/
structure Blw (n : Nat) (w w' : World) : Prop extends Below n w w' where
  fz : ∀ a, w'.frozen? a = w.frozen? a
theorem Blw.refl (n : Nat) (w : World) : Blw n w w := ⟨Below.refl n w, fun _ => rfl⟩
theorem Blw.trans {n : Nat} {a b c : World} (h : Blw n a b) (k : Blw n b c) : Blw n a c := ⟨h.toBelow.trans k.toBelow, fun x => (k.fz x).trans (h.fz x)⟩
theorem Blw.mono {n m : Nat} {w w' : World} (h : Blw n w w') (hm : m ≤ n) : Blw m w w' := ⟨h.toBelow.mono hm, h.fz⟩
/-- The call's frame of reference: the world at its beginning, and those of its blocks that nobody writes. -/
structure Ctx where
  P : Program
  w0 : World
  I : Nat → Prop
/-- Memory fits; U: the names that may have been given. -/
structure MR (C : Ctx) (E : Env) (m : Mem) (U : Nat → Prop) : Prop where
  below : Blw C.w0.heap.size C.w0 E.w
  blocks : ∀ b, RM E b (m b)
  own : ∀ k, owns E m k → k < E.w.heap.size ∧ C.w0.heap.size ≤ k ∧ ¬ E.imm k
  inj : ∀ b b' bt bt' k, live (m b) → live (m b') → E.ρ b = some bt → E.ρ b' = some bt' → bt.base = some k → bt'.base = some k → b = b'
  immLt : ∀ k, E.imm k → k < E.w.heap.size
  immI : ∀ k, E.imm k → k < C.w0.heap.size → C.I k
  nx : ∀ b bt, E.ρ b = some bt → U b

/-- What goes on holding. -/
structure Ext (E E' : Env) : Prop where
  ρ : ∀ b bt, E.ρ b = some bt → E'.ρ b = some bt
  imm : ∀ k, E.imm k → E'.imm k ∧ E'.w.heap[k]? = E.w.heap[k]?
theorem Ext.refl (E : Env) : Ext E E := ⟨fun _ _ h => h, fun _ h => ⟨h, rfl⟩⟩
theorem Ext.trans {E F G : Env} (h : Ext E F) (h' : Ext F G) : Ext E G :=
  ⟨fun b bt hb => h'.ρ b bt (h.ρ b bt hb), fun k hk => ⟨(h'.imm k (h.imm k hk).1).1, ((h'.imm k (h.imm k hk).1).2).trans (h.imm k hk).2⟩⟩
theorem capsRel.mono {ρ ρ' : Nat → Option BT} (h : ∀ b bt, ρ b = some bt → ρ' b = some bt) : ∀ {l : List Nat} {vs : List Value}, capsRel ρ l vs → capsRel ρ' l vs
  | [], [], _ => trivial
  | _ :: _, _ :: _, ⟨⟨k, t, h1, h2⟩, h3⟩ => ⟨⟨k, t, h _ _ h1, h2⟩, capsRel.mono h h3⟩
theorem Rd.ext {E E' : Env} (h : Ext E E') {t : Ty} {x : t.den} {cs : List Value} (hr : Rd E.w E.imm t x cs) : Rd E'.w E'.imm t x cs := Rd.mono h.imm t x cs hr
theorem cell_of_heap {w w' : World} {b o : Nat} {v : Value} (h : w'.heap[b]? = w.heap[b]?) (hc : w.cell? ⟨b, o, none⟩ = some v) : w'.cell? ⟨b, o, none⟩ = some v := by
  unfold World.cell? at *; simp only [h]; exact hc
theorem RC.ext {E E' : Env} (h : Ext E E') : ∀ {v : AV} {cs : List Value}, RC E v cs → RC E' v cs := by
  intro v
  induction v with
  | junk => intro cs h; exact h.elim
  | val t x => intro cs hr; exact Rd.ext h hr
  | nils => intro cs hr; exact hr
  | eptr t x =>
    rintro cs ⟨a, c, e, hs, hi, hr, hc⟩
    exact ⟨a, c, e, hs, (h.imm _ hi).1, Rd.ext h hr, fun j v hv => cell_of_heap (h.imm _ hi).2 (hc j v hv)⟩
  | ptr b p => rintro cs ⟨bt, k, u, o, hb, hr⟩; exact ⟨bt, k, u, o, h.ρ _ _ hb, hr⟩
  | sl b =>
    rintro cs (⟨t, hb, e⟩ | ⟨k, t, cap, len, hb, e⟩)
    · exact .inl ⟨t, h.ρ _ _ hb, e⟩
    · exact .inr ⟨k, t, cap, len, h.ρ _ _ hb, e⟩
  | asl b p => rintro cs ⟨k, t, n, u, o, hb, hr⟩; exact ⟨k, t, n, u, o, h.ρ _ _ hb, hr⟩
  | mp b => rintro cs ⟨k, x, y, hb, e⟩; exact ⟨k, x, y, h.ρ _ _ hb, e⟩
  | fn f caps => rintro cs ⟨vs, hv, e⟩; exact ⟨vs, hv.mono h.ρ, e⟩
  | nilp => intro cs hr; exact hr
  | tup l _ => intro cs hr; exact hr.elim
  | agv s l ih => intro cs hr; exact ih (cs := cs) hr
  | nil => intro cs hr; exact hr
  | cons a l iha ihl => rintro cs ⟨c, d, e, h1, h2⟩; exact ⟨c, d, e, iha h1, ihl h2⟩
theorem RVs.ext {E E' : Env} (h : Ext E E') : ∀ {v : AV} {vs : List Value}, RVs E v vs → RVs E' v vs := by
  intro v
  induction v with
  | nil => intro vs hr; exact hr
  | cons a l _ ihl => rintro vs ⟨cs, r, e, h1, h2⟩; exact ⟨cs, r, e, h1.ext h, ihl h2⟩
  | _ => intro vs hr; exact hr.elim
theorem RV.ext {E E' : Env} (h : Ext E E') {v : AV} {x : Value} (hr : RV E v x) : RV E' v x := by
  cases v with
  | junk => trivial
  | tup l => obtain ⟨vs, e, hv⟩ := hr; exact ⟨vs, e, hv.ext h⟩
  | _ => obtain ⟨cs, e, hc⟩ := hr; exact ⟨cs, e, hc.ext h⟩

/-! ### Values of kinds -/
/-- A value of a kind has as many cells. -/
theorem has_cells {E : Env} : ∀ {v : AV} {t : Ty} {cs : List Value}, v.has t = true → RC E v cs → cs.length = t.size := by
  intro v
  induction v with
  | junk => intro t cs _ h; exact h.elim
  | val u x => intro t cs h hr; simp only [AV.has] at h; rw [← Ty.eq_of_eqb h]; exact Rd.len _ _ _ hr
  | nils => intro t cs h hr; cases t <;> simp [AV.has, isList] at h; simp [RC] at hr; simp [hr, Ty.size]
  | sl b => intro t cs h hr; cases t <;> simp [AV.has, isList] at h; rcases hr with ⟨_, _, rfl⟩ | ⟨_, _, _, _, _, rfl⟩ <;> simp [Ty.size]
  | asl b p => intro t cs h hr; cases t <;> simp [AV.has, isList] at h; obtain ⟨_, _, _, _, _, _, _, _, _, _, rfl⟩ := hr; simp [Ty.size]
  | agv s l ih =>
    intro t cs h hr
    cases t <;> simp [AV.has] at h
    rw [St.no_inj h.1] at h
    rw [ih h.2 hr, St.size_body]; rfl
  | nil => intro t cs h hr; cases t <;> simp [AV.has] at h; simp [RC] at hr; simp [hr, Ty.size]
  | cons a l iha ihl =>
    intro t cs h hr
    cases t <;> simp [AV.has] at h
    obtain ⟨c, d, rfl, h1, h2⟩ := hr
    simp [Ty.size, iha h.1 h1, ihl h.2 h2]
  | _ => intro t cs h; cases t <;> simp [AV.has] at h
theorem has_agg {v : AV} {t : Ty} (h : v.has t = true) (hn : ∀ a b, t ≠ .prod a b) (hu : t ≠ .unit) : v.isAgg = t.agg := by
  cases v with
  | val u x => simp only [AV.has] at h; rw [← Ty.eq_of_eqb h]; rfl
  | agv s l => cases t <;> simp [AV.has] at h; rfl
  | cons a l => cases t <;> simp [AV.has] at h; exact absurd rfl (hn _ _)
  | nil => cases t <;> simp [AV.has] at h; exact absurd rfl hu
  | _ => cases t <;> simp_all [AV.has, isList, AV.isAgg, Ty.agg]
theorem RC.one {E : Env} : ∀ {v : AV} {cs : List Value}, RC E v cs → ∀ c ∈ cs, c.oneCell' = true := by
  intro v
  induction v with
  | junk => intro cs h; exact h.elim
  | tup l _ => intro cs h; exact h.elim
  | val u x => intro cs hr; exact Rd.one _ _ _ hr
  | agv s l ih => intro cs hr; exact ih (cs := cs) hr
  | nil => intro cs hr; simp [RC] at hr; simp [hr]
  | cons a l iha ihl =>
    rintro cs ⟨c, d, rfl, h1, h2⟩ v hv
    rcases List.mem_append.1 hv with hv | hv
    · exact iha h1 v hv
    · exact ihl h2 v hv
  | nils => intro cs hr; simp [RC] at hr; simp [hr, Value.oneCell']
  | nilp => intro cs hr; simp [RC] at hr; simp [hr, Value.oneCell']
  | sl b => intro cs hr; rcases hr with ⟨_, _, rfl⟩ | ⟨_, _, _, _, _, rfl⟩ <;> simp [Value.oneCell']
  | asl b p => intro cs hr; obtain ⟨_, _, _, _, _, _, _, _, _, _, rfl⟩ := hr; simp [Value.oneCell']
  | eptr t x => intro cs hr; obtain ⟨_, _, rfl, _⟩ := hr; simp [Value.oneCell']
  | ptr b p => intro cs hr; obtain ⟨_, _, _, _, _, _, _, rfl⟩ := hr; simp [Value.oneCell']
  | mp b => intro cs hr; obtain ⟨_, _, _, _, rfl⟩ := hr; simp [Value.oneCell']
  | fn f caps => intro cs hr; obtain ⟨_, _, rfl⟩ := hr; simp [Value.oneCell']
theorem RC.single {E : Env} {v : AV} {cs : List Value} (h : RC E v cs) (hg : v.isAgg = false) (hn : v ≠ .nil) (hc : ∀ a l, v ≠ .cons a l) : ∃ c, cs = [c] := by
  cases v with
  | junk => exact h.elim
  | tup l => exact h.elim
  | val u x => exact Rd.single h hg
  | agv s l => simp [AV.isAgg] at hg
  | nil => exact absurd rfl hn
  | cons a l => exact absurd rfl (hc _ _)
  | nils => simp [RC] at h; exact ⟨_, h⟩
  | nilp => simp [RC] at h; exact ⟨_, h⟩
  | sl b => rcases h with ⟨_, _, rfl⟩ | ⟨_, _, _, _, _, rfl⟩ <;> exact ⟨_, rfl⟩
  | asl b p => obtain ⟨_, _, _, _, _, _, _, _, _, _, rfl⟩ := h; exact ⟨_, rfl⟩
  | eptr t x => obtain ⟨_, _, rfl, _⟩ := h; exact ⟨_, rfl⟩
  | ptr b p => obtain ⟨_, _, _, _, _, _, _, rfl⟩ := h; exact ⟨_, rfl⟩
  | mp b => obtain ⟨_, _, _, _, rfl⟩ := h; exact ⟨_, rfl⟩
  | fn f caps => obtain ⟨_, _, rfl⟩ := h; exact ⟨_, rfl⟩
theorem RC.cells {E : Env} {v : AV} {cs : List Value} (h : RC E v cs) (hn : v ≠ .nil) (hc : ∀ a l, v ≠ .cons a l) : (pk v.isAgg cs).cells.toList = cs :=
  pk_cells fun hg => by
    obtain ⟨c, rfl⟩ := h.single hg hn hc
    exact ⟨rfl, h.one⟩
end Go.Co
