/-
  A frame and memory that fit a state.
  Own text, for the claims about coterie.
-/
import Derived.Test.YtghmcodjbkmlnaaCoOps9
import Derived.Orders
namespace Go.Co
open Go.RowKit

/-- The frame and memory fit the state. -/
structure Fit (C : Ctx) (n : Nat) (U : Nat → Prop) (e : Env) (s : AS) (a : Act) : Prop where
  defers : a.defers = []
  size : a.tmps.size = n
  slots : ∀ i, RV e (s.slots i) (a.tmps.getD i undef)
  mem : MR C e s.mem U
/-- The names from the one number to the other are taken, too. -/
def taken (U : Nat → Prop) (lo hi : Nat) (b : Nat) : Prop := U b ∨ (lo ≤ b ∧ b < hi)
def free (U : Nat → Prop) (lo hi : Nat) : Prop := ∀ b, lo ≤ b → b < hi → ¬ U b
theorem taken_taken {U : Nat → Prop} {a b c : Nat} (h1 : a ≤ b) (h2 : b ≤ c) {x : Nat} : taken (taken U a b) b c x ↔ taken U a c x := by
  unfold taken; constructor
  · rintro ((h | h) | h)
    · exact .inl h
    · exact .inr ⟨h.1, by omega⟩
    · exact .inr ⟨by omega, h.2⟩
  · rintro (h | h)
    · exact .inl (.inl h)
    · by_cases hx : x < b
      · exact .inl (.inr ⟨h.1, hx⟩)
      · exact .inr ⟨by omega, h.2⟩
theorem free_left {U : Nat → Prop} {a b c : Nat} (h : free U a c) (h2 : b ≤ c) : free U a b := fun x h3 h4 => h x h3 (by omega)
theorem free_right {U : Nat → Prop} {a b c : Nat} (h : free U a c) (h1 : a ≤ b) : free (taken U a b) b c := by
  rintro x h3 h4 (h5 | h5)
  · exact h x (by omega) h4 h5
  · omega
theorem Fit.widen {C : Ctx} {n : Nat} {U U' : Nat → Prop} {e : Env} {s : AS} {a : Act} (h : Fit C n U e s a) (hu : ∀ b, U b → U' b) : Fit C n U' e s a := ⟨h.defers, h.size, h.slots, h.mem.widen hu⟩
theorem know_eq {s : AS} {d : Nat} {b : Bool} (h : s.slots d = .val .bool b) : know s d b = s := by
  cases s with
  | mk sl m nx =>
    simp only [know, AS.put, AS.mk.injEq, and_true]
    funext i
    cases hb : Nat.beq i d with
    | true => rw [Nat.eq_of_beq_eq_true hb]; exact h.symm
    | false => rfl
theorem getD_bool {t : Array Value} {d : Nat} {b : Bool} (h : t.getD d undef = .bool b) : t[d]? = some (.bool b) := by
  rw [Array.getD_eq_getD_getElem?] at h
  cases ht : t[d]? with
  | none => rw [ht] at h; simp [undef] at h
  | some v => rw [ht] at h; simp at h; rw [h]
theorem dstOf_some {ops : Array Oper} {j d : Nat} (h : dstOf ops.toList j = some d) : (ops[j]?).bind (·.dst) = some d := by
  have key : ∀ (l : List Oper) (j : Nat), dstOf l j = some d → (l[j]?).bind (·.dst) = some d := by
    intro l
    induction l with
    | nil => intro j h; cases j <;> simp [dstOf] at h
    | cons o l ih =>
      intro j h
      cases j with
      | zero => simpa [dstOf] using h
      | succ j => simpa using ih j (by simpa [dstOf] using h)
  have := key _ _ h
  simpa using this
theorem yielded_of {ops : Array Oper} {j d : Nat} {t : Array Value} {b : Bool} (h : dstOf ops.toList j = some d) (ht : t.getD d undef = .bool b) : yielded ops t j = some b := by
  unfold yielded
  rw [dstOf_some h]
  simp [getD_bool ht]
theorem yielded_nil {ops : Array Oper} {j d : Nat} {t : Array Value} (h : dstOf ops.toList j = some d) (ht : t.getD d undef = undef) : yielded ops t j = none := by
  unfold yielded
  rw [dstOf_some h]
  rw [Array.getD_eq_getD_getElem?] at ht
  cases hd : t[d]? with
  | none => simp [hd]
  | some v => rw [hd] at ht; simp at ht; subst ht; simp [hd, undef]
theorem RV.nil {e : Env} {v : Value} (h : RV e .nil v) : v = undef := by
  obtain ⟨cs, rfl, hc⟩ := h
  have : cs = [] := hc
  subst this; rfl
theorem RV.skip (e : Env) : RV e .nil undef := ⟨[], rfl, rfl⟩
theorem put_slots {e : Env} {f : Nat → AV} {a : Act} {d : Option Nat} {v : AV} {z : Value} {n : Nat} (hs : ∀ i, RV e (f i) (a.tmps.getD i undef)) (hn : a.tmps.size = n) (hd : (match d with | some d => Nat.blt d n | none => true) = true) (hv : RV e v z) :
    ∀ i, RV e (putD f d v i) ((a.put d z).tmps.getD i undef) := by
  intro i
  cases d with
  | none => exact hs i
  | some d =>
    simp only at hd
    have hd : d < n := by simpa using hd
    simp only [putD, Act.put]
    rw [Array.getD_eq_getD_getElem?, Array.getElem?_setIfInBounds]
    cases hb : Nat.beq i d with
    | true =>
      have := Nat.eq_of_beq_eq_true hb; subst this
      simp [hn, hd]; exact hv
    | false =>
      have hne : d ≠ i := by rintro rfl; simp at hb
      rw [if_neg hne, ← Array.getD_eq_getD_getElem?]; exact hs i
theorem putDst_slots (s : AS) (d : Option Nat) (v : AV) : (putDst s d v).slots = putD s.slots d v := by cases d <;> rfl
theorem putDst_mem (s : AS) (d : Option Nat) (v : AV) : (putDst s d v).mem = s.mem := by cases d <;> rfl
theorem putDst_nx (s : AS) (d : Option Nat) (v : AV) : (putDst s d v).nx = s.nx := by cases d <;> rfl
theorem Fit.put {C : Ctx} {n : Nat} {U U' : Nat → Prop} {e : Env} {s : AS} {a : Act} (h : Fit C n U e s a) {d : Option Nat} (hd : (match d with | some d => Nat.blt d n | none => true) = true) {v : AV} {z : Value} {e' : Env} (hx : Ext e e') {m' : Mem} {nx' : Nat} (hm : MR C e' m' U') (hv : RV e' v z) :
    Fit C n U' e' (putDst ⟨s.slots, m', nx'⟩ d v) (a.put d z) := by
  refine ⟨?_, ?_, ?_, ?_⟩
  · cases d <;> exact h.defers
  · cases d <;> simp [Act.put, h.size]
  · rw [putDst_slots]; exact put_slots (fun i => (h.slots i).ext hx) h.size hd hv
  · rw [putDst_mem]; exact hm
end Go.Co
