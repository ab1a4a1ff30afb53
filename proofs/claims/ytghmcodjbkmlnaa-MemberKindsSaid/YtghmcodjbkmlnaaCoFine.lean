/-
  Data within the bounds of its kinds.
  Own text, for the claims about coterie.
-/
import Derived.Test.YtghmcodjbkmlnaaCoRep
namespace Go.Co

/-- Whole numbers lie in their kinds, texts and slices aren't too long. -/
def Fine : (t : Ty) → t.den → Prop
  | .int k, n => inKind k n = true
  | .bool, _ => True
  | .str, s => s.size ≤ top
  | .unit, _ => True
  | .prod a b, x => Fine a x.1 ∧ Fine b x.2
  | .arr _ t, x => ∀ y ∈ Vector.toList x, Fine t y
  | .list t, xs => List.length xs * t.bytes ≤ top ∧ ∀ y ∈ xs, Fine t y
  | .st s, x => Fine s.body (s.unpack x)
termination_by t => t.wt
decreasing_by
  all_goals first
    | (simp only [Ty.wt]; omega)
    | (simp only [Ty.wt]; exact St.wt_body _)
theorem Fine.int {k : IntKind} {n : Int} : Fine (.int k) n ↔ inKind k n = true := by rw [Fine]
theorem Fine.str {s : ByteArray} : Fine .str s ↔ s.size ≤ top := by rw [Fine]
theorem Fine.prod {a b : Ty} {x : a.den × b.den} : Fine (.prod a b) x ↔ Fine a x.1 ∧ Fine b x.2 := by rw [Fine]
theorem Fine.arr {n : Nat} {t : Ty} {x : Arr n t.den} : Fine (.arr n t) x ↔ ∀ y ∈ Vector.toList x, Fine t y := by rw [Fine]
theorem Fine.list {t : Ty} {xs : List t.den} : Fine (.list t) xs ↔ List.length xs * t.bytes ≤ top ∧ ∀ y ∈ xs, Fine t y := by rw [Fine]
theorem Fine.st {s : St} {x : s.den} : Fine (.st s) x ↔ Fine s.body (s.unpack x) := by rw [Fine]
theorem Fine.unit {x : Unit} : Fine .unit x ↔ True := by rw [Fine]
theorem Fine.bool {x : Bool} : Fine .bool x ↔ True := by rw [Fine]
theorem All2.mem {α β : Type} {R : α → β → Prop} : ∀ {xs : List α} {ys : List β}, All2 R xs ys → ∀ x ∈ xs, ∃ y, R x y
  | [], [], _, x, h => by simp at h
  | a :: xs, b :: ys, h, x, hx => by
    rcases List.mem_cons.1 hx with rfl | hx
    · exact ⟨b, h.1⟩
    · exact All2.mem h.2 x hx
theorem Rd.fine {w : World} {im : Nat → Prop} : ∀ (t : Ty) (x : t.den) (cs : List Value), Rd w im t x cs → Fine t x := by
  refine Ty.ind ?_ ?_ ?_ ?_ ?_ ?_ ?_ ?_
  · intro k x cs h; exact Fine.int.2 (Rd.int.1 h).2
  · intro x cs _; exact Fine.bool.2 trivial
  · intro x cs h; exact Fine.str.2 (Rd.str.1 h).2
  · intro x cs _; exact Fine.unit.2 trivial
  · intro a b iha ihb x cs h
    obtain ⟨c, d, _, h1, h2⟩ := Rd.prod.1 h
    exact Fine.prod.2 ⟨iha _ _ h1, ihb _ _ h2⟩
  · intro n t ih x cs h
    obtain ⟨css, _, hall⟩ := Rd.arr.1 h
    exact Fine.arr.2 fun y hy => by obtain ⟨c, hc⟩ := hall.mem y hy; exact ih _ _ hc
  · intro t ih x cs h
    obtain ⟨hb, h⟩ := Rd.list.1 h
    refine Fine.list.2 ⟨hb, fun y hy => ?_⟩
    rcases h with ⟨_, hx⟩ | ⟨a, cap, css, _, _, _, _, hall, _⟩
    · have hx : x = [] := hx
      rw [hx] at hy; cases hy
    · obtain ⟨c, hc⟩ := hall.mem y hy; exact ih _ _ hc
  · intro s ih x cs h; exact Fine.st.2 (ih _ _ (Rd.st.1 h))
def FineL : (l : List Ty) → denL l → Prop
  | [], _ => True
  | t :: r, x => Fine t x.1 ∧ FineL r x.2
end Go.Co
