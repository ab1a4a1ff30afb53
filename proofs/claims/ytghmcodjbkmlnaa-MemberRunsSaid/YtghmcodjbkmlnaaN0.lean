/-
  Words and lemmas for plain proofs: arrays, loops told by their states, bounds.
  Own text, for the claims about coterie. No program in sight.
-/
import Derived.Test.YtghmcodjbkmlnaaCoLp
import Derived.Test.YtghmcodjbkmlnaaCoFine
import Derived.Test.YtghmcodjbkmlnaaCoOps2
import Derived.IntWalk
namespace Go.Co.N
open Go Go.Co

/-! ### Contracts and texts -/
def Eqs (c : Con) (g : denL c.args → Option (denL c.res)) : Prop := ∀ x y, FineL c.args x → c.fn x = some y → g x = some y
theorem Eqs.tot {c : Con} {g : denL c.args → Option (denL c.res)} (h : ∀ x, FineL c.args x → g x = c.fn x) : Eqs c g := fun x _ hf hy => (h x hf).trans hy
abbrev c_True (args : List Ty) : Con := ⟨args, [.bool], fun _ => some (true, ())⟩

/-- A text, byte by byte. -/
def bytesOf (l : List Nat) : ByteArray := ⟨(l.map UInt8.ofNat).toArray⟩

/-! ### Bounds -/
theorem i64_in (n : Int) (h : -9223372036854775808 ≤ n ∧ n ≤ 9223372036854775807) : IntKind.i64.wrap n = n := Go.IntWalk.i64_in _ (by omega)
theorem fine_i {n : Int} : Fine .i n ↔ -9223372036854775808 ≤ n ∧ n ≤ 9223372036854775807 := by
  rw [Fine.int, inKind_iff]; rfl
theorem fine_u32 {n : Int} : Fine (.int .u32) n ↔ 0 ≤ n ∧ n ≤ 4294967295 := by
  rw [Fine.int, inKind_iff]; rfl
theorem fine_u64 {n : Int} : Fine (.int .u64) n ↔ 0 ≤ n ∧ n ≤ 18446744073709551615 := by
  rw [Fine.int, inKind_iff]; rfl
theorem fine_u8 {n : Int} : Fine (.int .u8) n ↔ 0 ≤ n ∧ n ≤ 255 := by
  rw [Fine.int, inKind_iff]; rfl
abbrev I64 (n : Int) : Prop := -9223372036854775808 ≤ n ∧ n ≤ 9223372036854775807
theorem fine_key {k : Key} : Fine (.st .key) k ↔ I64 k.Base ∧ I64 k.Step := by
  rw [Fine.st]
  show Fine (.prod .i (.prod .i .unit)) (k.Base, k.Step, ()) ↔ _
  rw [Fine.prod, Fine.prod, Fine.unit, fine_i, fine_i]
  simp
theorem fine_entry {e : Entry} : Fine (.st .entry) e ↔ I64 e.Who ∧ I64 e.Base ∧ I64 e.Since := by
  rw [Fine.st]
  show Fine (.prod .i (.prod .i (.prod .i .unit))) (e.Who, e.Base, e.Since, ()) ↔ _
  rw [Fine.prod, Fine.prod, Fine.prod, Fine.unit, fine_i, fine_i, fine_i]
  simp
theorem fine_tree {t : Tree} : Fine (.st .tree) t ↔ I64 t.Epoch ∧ I64 t.Fresh ∧ Fine (.arr 21 (.st .key)) t.Keys ∧ Fine (.arr 64 (.st .entry)) t.Roster := by
  rw [Fine.st]
  show Fine (.prod .i (.prod .i (.prod (.arr 21 (.st .key)) (.prod (.arr 64 (.st .entry)) .unit)))) (t.Epoch, t.Fresh, t.Keys, t.Roster, ()) ↔ _
  rw [Fine.prod, Fine.prod, Fine.prod, Fine.prod, Fine.unit, fine_i, fine_i]
  simp

/-! ### Arrays -/
section
variable {n : Nat} {α : Type} [Inhabited α]
theorem get_mem (a : Arr n α) (i : Int) (h0 : 0 ≤ i) (h1 : i < n) : Arr.get a i ∈ Vector.toList a := by
  have hi : i.toNat < n := by omega
  have : Arr.get a i = a[i.toNat] := by
    unfold Arr.get
    rw [Array.getD_eq_getD_getElem?]
    simp [hi]
  rw [this]
  simp
theorem get_nat (a : Arr n α) (i : Nat) (h : i < n) : Arr.get a (i : Int) = a[i] := by
  unfold Arr.get
  rw [Array.getD_eq_getD_getElem?]
  simp [h]
theorem get_out (a : Arr n α) (i : Int) (h : n ≤ i.toNat) : Arr.get a i = default := by
  unfold Arr.get
  rw [Array.getD_eq_getD_getElem?]
  simp [h]
theorem arr_ext {a b : Arr n α} (h : ∀ i : Int, 0 ≤ i → i < n → Arr.get a i = Arr.get b i) : a = b := by
  apply Vector.ext
  intro i hi
  have := h i (by omega) (by omega)
  rwa [get_nat a i hi, get_nat b i hi] at this
theorem get_put_ne (a : Arr n α) (i j : Int) (x : α) (h : i.toNat ≠ j.toNat) : Arr.get (Arr.put a i x) j = Arr.get a j := by
  unfold Arr.get Arr.put
  rw [Array.getD_eq_getD_getElem?, Array.getD_eq_getD_getElem?]
  simp [Vector.setIfInBounds, h]
theorem get_put_eq (a : Arr n α) (i : Int) (x : α) (h : i.toNat < n) : Arr.get (Arr.put a i x) i = x := by
  unfold Arr.get Arr.put
  rw [Array.getD_eq_getD_getElem?]
  simp [Vector.setIfInBounds, h]
theorem get_put (a : Arr n α) (i j : Int) (x : α) (h0 : 0 ≤ i) (h1 : i < n) (h2 : 0 ≤ j) : Arr.get (Arr.put a i x) j = if i = j then x else Arr.get a j := by
  split
  · rename_i h; subst h; exact get_put_eq a i x (by omega)
  · exact get_put_ne a i j x (by omega)
theorem get_make (f : Nat → α) (i : Int) (h0 : 0 ≤ i) (h1 : i < n) : Arr.get (Arr.make (n := n) f) i = f i.toNat := by
  have hi : i.toNat < n := by omega
  unfold Arr.get Arr.make
  rw [Array.getD_eq_getD_getElem?]
  simp [hi]
theorem get_rep (x : α) (i : Int) (h0 : 0 ≤ i) (h1 : i < n) : Arr.get (Vector.replicate n x : Arr n α) i = x := by
  have hi : i.toNat < n := by omega
  unfold Arr.get
  rw [Array.getD_eq_getD_getElem?]
  simp [hi]
end
section
variable {n : Nat} {α : Type} [Inhabited α]
/-- An array that is filled up to a place. -/
def fillTo (z : α) (g : Nat → α) (i : Nat) : Arr n α := Arr.make fun j => if j < i then g j else z
theorem fill_0 (z : α) (g : Nat → α) : (fillTo z g 0 : Arr n α) = Vector.replicate n z := arr_ext fun i h0 h1 => by
  rw [fillTo, get_make _ _ h0 h1, if_neg (by omega), get_rep _ _ h0 h1]
theorem fill_n (z : α) (g : Nat → α) : (fillTo z g n : Arr n α) = Arr.make g := arr_ext fun i h0 h1 => by
  rw [fillTo, get_make _ _ h0 h1, if_pos (by omega), get_make _ _ h0 h1]
theorem fill_put (z : α) (g : Nat → α) (i : Nat) (h : i < n) : Arr.put (fillTo z g i : Arr n α) (i : Int) (g i) = fillTo z g (i + 1) := arr_ext fun j h0 h1 => by
  rw [get_put _ _ _ _ (by omega) (by omega) h0, fillTo, fillTo, get_make _ _ h0 h1, get_make _ _ h0 h1]
  by_cases hj : (i : Int) = j
  · subst hj; simp
  · rw [if_neg hj]
    by_cases hl : j.toNat < i
    · rw [if_pos hl, if_pos (by omega)]
    · rw [if_neg hl, if_neg (by omega)]
end
theorem fine_get {n : Nat} {t : Ty} {a : Arr n t.den} (h : Fine (.arr n t) a) (i : Int) (h0 : 0 ≤ i) (h1 : i < n) : Fine t (Arr.get a i) := Fine.arr.1 h _ (get_mem a i h0 h1)
theorem fine_keys {k : Keys} (h : Fine (.arr 21 (.st .key)) k) (i : Int) (h0 : 0 ≤ i) (h1 : i < 21) : I64 (Arr.get k i).Base ∧ I64 (Arr.get k i).Step := fine_key.1 (fine_get h i h0 h1)
theorem fine_roster {r : Roster} (h : Fine (.arr 64 (.st .entry)) r) (i : Int) (h0 : 0 ≤ i) (h1 : i < 64) : I64 (Arr.get r i).Who ∧ I64 (Arr.get r i).Base ∧ I64 (Arr.get r i).Since := fine_entry.1 (fine_get h i h0 h1)
theorem lat_nat {α : Type} [Inhabited α] (l : List α) (i : Nat) (h : i < l.length) : lat l (i : Int) = l[i] := by
  unfold lat
  rw [List.getD_eq_getElem?_getD]
  simp [h]

theorem inr {n : Int} {i : Nat} {m : Int} (h : (i : Int) < m) (hn : m ≤ n) : (decide (0 ≤ (i : Int)) && decide ((i : Int) < n)) = true := by simp; omega
theorem wrap1 (i : Nat) (h : i < 1000000) : IntKind.i64.wrap ((i : Int) + 1) = ((i + 1 : Nat) : Int) := by rw [i64_in _ (by omega)]; omega
/-! ### All of n, any of n -/
def allN : Nat → (Nat → Bool) → Bool
  | 0, _ => true
  | n + 1, p => allN n p && p n
theorem allN_iff {n : Nat} {p : Nat → Bool} : allN n p = true ↔ ∀ i, i < n → p i = true := by
  induction n with
  | zero => simp [allN]
  | succ n ih =>
    simp only [allN, Bool.and_eq_true, ih]
    constructor
    · rintro ⟨h1, h2⟩ i hi
      by_cases he : i = n
      · subst he; exact h2
      · exact h1 i (by omega)
    · intro h; exact ⟨fun i hi => h i (by omega), h n (by omega)⟩
def anyN (n : Nat) (p : Nat → Bool) : Bool := !allN n fun i => !p i
theorem anyN_iff {n : Nat} {p : Nat → Bool} : anyN n p = true ↔ ∃ i, i < n ∧ p i = true := by
  unfold anyN
  cases h : allN n fun i => !p i with
  | true =>
    have := allN_iff.1 h
    simp only [Bool.not_true, Bool.false_eq_true, false_iff]
    rintro ⟨i, hi, hp⟩
    have := this i hi
    rw [hp] at this; cases this
  | false =>
    simp only [Bool.not_false, true_iff]
    by_cases he : ∃ i, i < n ∧ p i = true
    · exact he
    · have : allN n (fun i => !p i) = true := allN_iff.2 fun i hi => by
        cases hp : p i with
        | false => rfl
        | true => exact absurd ⟨i, hi, hp⟩ he
      rw [this] at h; cases h
theorem anyN_false {n : Nat} {p : Nat → Bool} : anyN n p = false ↔ ∀ i, i < n → p i = false := by
  cases h : anyN n p with
  | true =>
    obtain ⟨i, hi, hp⟩ := anyN_iff.1 h
    simp only [Bool.true_eq_false, false_iff]
    intro g; rw [g i hi] at hp; cases hp
  | false =>
    simp only [true_iff]
    intro i hi
    cases hp : p i with
    | false => rfl
    | true => rw [anyN_iff.2 ⟨i, hi, hp⟩] at h; cases h
theorem bool_eq {a b : Bool} (h : a = true ↔ b = true) : a = b := by cases a <;> cases b <;> simp_all
/-- The first one of n. -/
def fstN : Nat → (Nat → Bool) → Nat → Option Nat
  | 0, _, _ => none
  | d + 1, p, i => if p i = true then some i else fstN d p (i + 1)
theorem fstN_some {p : Nat → Bool} : ∀ {d i j : Nat}, fstN d p i = some j → i ≤ j ∧ j < i + d ∧ p j = true ∧ ∀ k, i ≤ k → k < j → p k = false
  | 0, i, j, h => by simp [fstN] at h
  | d + 1, i, j, h => by
    simp only [fstN] at h
    split at h
    · rename_i hp; cases h; exact ⟨Nat.le_refl _, by omega, hp, fun k h1 h2 => by omega⟩
    · rename_i hp
      obtain ⟨h1, h2, h3, h4⟩ := fstN_some h
      refine ⟨by omega, by omega, h3, fun k hk hk2 => ?_⟩
      by_cases he : k = i
      · subst he; simpa using hp
      · exact h4 k (by omega) hk2
theorem fstN_none {p : Nat → Bool} : ∀ {d i : Nat}, fstN d p i = none → ∀ k, i ≤ k → k < i + d → p k = false
  | 0, i, _ => by omega
  | d + 1, i, h => by
    simp only [fstN] at h
    split at h
    · cases h
    · rename_i hp
      intro k hk hk2
      by_cases he : k = i
      · subst he; simpa using hp
      · exact fstN_none h k (by omega) (by omega)

/-! ### Loops told by their states -/
section
variable {X Z A : Type} {f : X → Option (X ⊕ Z)}
theorem lfp_run (S : Nat → X) : ∀ (n i : Nat), (∀ j, i ≤ j → j < i + n → f (S j) = some (.inl (S (j + 1)))) → lfp f (S i) = lfp f (S (i + n))
  | 0, i, _ => rfl
  | n + 1, i, h => by
    rw [lfp_inl (h i (Nat.le_refl _) (by omega)), lfp_run S n (i + 1) fun j h1 h2 => h j (by omega) (by omega)]
    congr 2; omega
/-- A loop that ends at the first place that is bad. -/
theorem lfp_find (S : Nat → X) (n : Nat) (bad : Nat → Bool) (E : Nat → Z) (z : Z)
    (h1 : ∀ i, i < n → bad i = false → f (S i) = some (.inl (S (i + 1)))) (h2 : ∀ i, i < n → bad i = true → f (S i) = some (.inr (E i))) (h3 : f (S n) = some (.inr z)) :
    lfp f (S 0) = some (match fstN n bad 0 with | some i => E i | none => z) := by
  have main : ∀ d i, i + d = n → lfp f (S i) = some (match fstN d bad i with | some i => E i | none => z) := by
    intro d
    induction d with
    | zero => intro i hi; have : i = n := by omega
              subst this; exact lfp_inr h3
    | succ d ih =>
      intro i hi
      simp only [fstN]
      cases hb : bad i with
      | true => simp only [if_true]; exact lfp_inr (h2 i (by omega) hb)
      | false =>
        simp only [Bool.false_eq_true, if_false]
        rw [lfp_inl (h1 i (by omega) hb)]
        exact ih (i + 1) (by omega)
  exact main n 0 (by omega)
/-- The same, if all ways out that are bad lead to one end. -/
theorem lfp_all (S : Nat → X) (n : Nat) (ok : Nat → Bool) (e z : Z)
    (h1 : ∀ i, i < n → ok i = true → f (S i) = some (.inl (S (i + 1)))) (h2 : ∀ i, i < n → ok i = false → f (S i) = some (.inr e)) (h3 : f (S n) = some (.inr z)) :
    lfp f (S 0) = some (bif allN n ok then z else e) := by
  rw [lfp_find S n (fun i => !ok i) (fun _ => e) z (fun i hi hb => h1 i hi (by simpa using hb)) (fun i hi hb => h2 i hi (by simpa using hb)) h3]
  cases hf : fstN n (fun i => !ok i) 0 with
  | some i =>
    obtain ⟨_, hi, hb, _⟩ := fstN_some hf
    have : allN n ok = false := Bool.eq_false_iff.2 fun h => by
      have := allN_iff.1 h i (by omega)
      rw [this] at hb; cases hb
    rw [this]; rfl
  | none =>
    have := fstN_none hf
    rw [allN_iff.2 fun i hi => by have := this i (Nat.zero_le _) (by omega); simpa using this]; rfl
theorem lfp_run' (S : Nat → X) (n : Nat) {x : X} (h0 : x = S 0) (h : ∀ j, j < n → f (S j) = some (.inl (S (j + 1)))) : lfp f x = lfp f (S n) := by
  rw [h0, lfp_run S n 0 fun j _ hj => h j (by omega)]; simp
theorem lfp_find' (S : Nat → X) (n : Nat) (bad : Nat → Bool) (E : Nat → Z) (z : Z) {x : X} (h0 : x = S 0)
    (h1 : ∀ i, i < n → bad i = false → f (S i) = some (.inl (S (i + 1)))) (h2 : ∀ i, i < n → bad i = true → f (S i) = some (.inr (E i))) (h3 : f (S n) = some (.inr z)) :
    lfp f x = some (match fstN n bad 0 with | some i => E i | none => z) := by rw [h0]; exact lfp_find S n bad E z h1 h2 h3
theorem lfp_all' (S : Nat → X) (n : Nat) (ok : Nat → Bool) (e z : Z) {x : X} (h0 : x = S 0)
    (h1 : ∀ i, i < n → ok i = true → f (S i) = some (.inl (S (i + 1)))) (h2 : ∀ i, i < n → ok i = false → f (S i) = some (.inr e)) (h3 : f (S n) = some (.inr z)) :
    lfp f x = some (bif allN n ok then z else e) := by rw [h0]; exact lfp_all S n ok e z h1 h2 h3
/-- The same, where each place may count on those before it. -/
theorem lfp_allH (S : Nat → X) (n : Nat) (ok : Nat → Bool) (e z : Z) {x : X} (h0 : x = S 0)
    (h1 : ∀ i, i < n → (∀ j, j < i → ok j = true) → ok i = true → f (S i) = some (.inl (S (i + 1)))) (h2 : ∀ i, i < n → (∀ j, j < i → ok j = true) → ok i = false → f (S i) = some (.inr e)) (h3 : f (S n) = some (.inr z)) :
    lfp f x = some (bif allN n ok then z else e) := by
  have main : ∀ d i, i + d = n → (∀ j, j < i → ok j = true) → lfp f (S i) = some (bif allN n ok then z else e) := by
    intro d
    induction d with
    | zero =>
      intro i hi hj
      have : i = n := by omega
      subst this
      rw [allN_iff.2 hj]; exact lfp_inr h3
    | succ d ih =>
      intro i hi hj
      cases hok : ok i with
      | true =>
        rw [lfp_inl (h1 i (by omega) hj hok)]
        refine ih (i + 1) (by omega) fun j hj2 => ?_
        by_cases he : j = i
        · subst he; exact hok
        · exact hj j (by omega)
      | false =>
        have : allN n ok = false := Bool.eq_false_iff.2 fun h => by
          rw [allN_iff.1 h i (by omega)] at hok; cases hok
        rw [this]; exact lfp_inr (h2 i (by omega) hj hok)
  rw [h0]; exact main n 0 (by omega) fun j hj => by omega
/-- Steps of a loop with something carried on. -/
def steps (step : Nat → A → A ⊕ Z) : Nat → Nat → A → A ⊕ Z
  | 0, _, a => .inl a
  | d + 1, i, a => match step i a with
    | .inl a => steps step d (i + 1) a
    | .inr z => .inr z
theorem lfp_steps (S : Nat → A → X) (n : Nat) (step : Nat → A → A ⊕ Z) (Inv : Nat → A → Prop) (fin : A → Z)
    (h1 : ∀ i a, i < n → Inv i a → (∀ a', step i a = .inl a' → Inv (i + 1) a') ∧ f (S i a) = some (match step i a with | .inl a' => .inl (S (i + 1) a') | .inr z => .inr z))
    (h3 : ∀ a, Inv n a → f (S n a) = some (.inr (fin a))) : ∀ (d i : Nat) (a : A), i + d = n → Inv i a → lfp f (S i a) = some (match steps step d i a with | .inl a => fin a | .inr z => z)
  | 0, i, a, hi, ha => by
    have : i = n := by omega
    subst this; exact lfp_inr (h3 a ha)
  | d + 1, i, a, hi, ha => by
    obtain ⟨k1, k2⟩ := h1 i a (by omega) ha
    simp only [steps]
    cases hs : step i a with
    | inl a' =>
      rw [hs] at k2
      rw [lfp_inl k2]
      exact lfp_steps S n step Inv fin h1 h3 d (i + 1) a' (by omega) (k1 a' hs)
    | inr z => rw [hs] at k2; exact lfp_inr k2
end
end Go.Co.N
