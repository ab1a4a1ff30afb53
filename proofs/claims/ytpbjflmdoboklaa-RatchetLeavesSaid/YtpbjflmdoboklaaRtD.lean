/-
  Paths followed.
  Own text, for the claims about coterie.
-/
import Derived.Test.YtpbjflmdoboklaaRtB
import Derived.Test.YtpbjflmdoboklaaRtC
namespace Go.Proofs.Ytpbjflmdoboklaa
open Go Go.Co Go.Proofs

theorem ahead_e (k : Key) (n : Int) : (ahead k n).2 = 0 ∨ (ahead k n).2 = 3 ∨ (ahead k n).2 = 4 := by
  unfold ahead; split
  · split <;> simp
  · simp
theorem ahead_3 (k : Key) (n : Int) : (ahead k n).2 = 3 ↔ good k = false := by
  unfold ahead; cases good k <;> simp
  split <;> simp
abbrev zeroP : Path := Vector.replicate 3 St.key.zero
def follow (k : Path) (n : Int) : Path × Int :=
  if (ahead (Arr.get k 0) n).2 = 3 ∨ (ahead (Arr.get k 1) n).2 = 3 ∨ (ahead (Arr.get k 2) n).2 = 3 then (zeroP, 3)
  else if (ahead (Arr.get k 0) n).2 = 4 ∨ (ahead (Arr.get k 1) n).2 = 4 ∨ (ahead (Arr.get k 2) n).2 = 4 then (zeroP, 4)
  else (Arr.put (Arr.put (Arr.put k 0 (ahead (Arr.get k 0) n).1) 1 (ahead (Arr.get k 1) n).1) 2 (ahead (Arr.get k 2) n).1, 0)
abbrev cFollow : Con := ⟨[.arr 3 (.st .key), .i], [.arr 3 (.st .key), .i], fun x => some ((follow x.1 x.2.1).1, (follow x.1 x.2.1).2, ())⟩

noncomputable def L17 : List (Nat × LD) := [(3, ⟨⟨[(1, .hole .i), (2, .ptr 0 []), (4, .ptr 1 []), (6, .hole .i), (11, .hole (.arr 3 (.st .key))), (12, .hole .i)], [(0, (.arr 3 (.st .key)), .hole (.arr 3 (.st .key))), (1, (.arr 3 (.st .key)), .hole (.arr 3 (.st .key)))], []⟩, [(.exit 0, ⟨[(2, .ptr 0 []), (4, .ptr 1 []), (6, .hole .i)], [(0, (.arr 3 (.st .key)), .hole (.arr 3 (.st .key))), (1, (.arr 3 (.st .key)), .hole (.arr 3 (.st .key)))], []⟩)], 12⟩)]
abbrev X17 := (Int × Unit × Unit × Int × Path × Int × Unit) × (Path × Path × Unit) × Unit
abbrev Z17 := (Unit × Unit × Int × Unit) × (Path × Path × Unit) × Unit
def r17 : X17 → Option (X17 ⊕ Z17)
  | ((n, _, _, w, k, i, _), (p, b, _), _) =>
    bif decide (i < 3) then
      bif decide (0 ≤ i) && decide (i < 3) then
        bif decide ((ahead (Arr.get k i) n).2 = 3) then
          bif decide ((ahead (Arr.get k i) n).2 = 3) then some (.inr (((), (), (ahead (Arr.get k i) n).2, ()), (p, b, ()), ()))
          else bif decide (0 ≤ i) && decide (i < 3) then some (.inl ((n, (), (), (ahead (Arr.get k i) n).2, k, IntKind.i64.wrap (i + 1), ()), (Arr.put p i (ahead (Arr.get k i) n).1, b, ()), ())) else none
        else bif decide (w = 0) then
          bif decide ((ahead (Arr.get k i) n).2 = 3) then some (.inr (((), (), (ahead (Arr.get k i) n).2, ()), (p, b, ()), ()))
          else bif decide (0 ≤ i) && decide (i < 3) then some (.inl ((n, (), (), (ahead (Arr.get k i) n).2, k, IntKind.i64.wrap (i + 1), ()), (Arr.put p i (ahead (Arr.get k i) n).1, b, ()), ())) else none
        else bif decide (w = 3) then some (.inr (((), (), w, ()), (p, b, ()), ()))
          else bif decide (0 ≤ i) && decide (i < 3) then some (.inl ((n, (), (), w, k, IntKind.i64.wrap (i + 1), ()), (Arr.put p i (ahead (Arr.get k i) n).1, b, ()), ())) else none
      else none
    else some (.inr (((), (), w, ()), (p, b, ()), ()))
theorem f17_run (k : Path) (n : Int) : run [(24, cAhead)] L17 Try.f17 [.arr 3 (.st .key), .i] [.arr 3 (.st .key), .i] (k, n, ()) =
    (lfp r17 ((n, (), (), 0, k, 0, ()), (k, zeroP, ()), ())).bind fun z => bif !decide (z.1.2.2.1 = 0) then some (zeroP, z.1.2.2.1, ()) else some (z.2.1.1, 0, ()) := by kernel_rfl
theorem f17_eq (k : Path) (n : Int) : run [(24, cAhead)] L17 Try.f17 [.arr 3 (.st .key), .i] [.arr 3 (.st .key), .i] (k, n, ()) = some ((follow k n).1, (follow k n).2, ()) := by
  rw [f17_run]
  have w1 : IntKind.i64.wrap (0 + 1) = 1 := by decide
  have w2 : IntKind.i64.wrap (1 + 1) = 2 := by decide
  have w3 : IntKind.i64.wrap (2 + 1) = 3 := by decide
  rw [lfp_step]
  unfold follow
  rcases ahead_e (Arr.get k 0) n with h0 | h0 | h0 <;> simp only [r17, h0] <;> simp only [w1] <;> simp
  · rw [lfp_step]
    rcases ahead_e (Arr.get k 1) n with h1 | h1 | h1 <;> simp only [r17, h1] <;> simp only [w2] <;> simp
    · rw [lfp_step]
      rcases ahead_e (Arr.get k 2) n with h2 | h2 | h2 <;> simp only [r17, h2] <;> simp only [w3] <;> simp
      · rw [lfp_step]; simp [r17]
      · rw [lfp_step]; simp [r17]
    · rw [lfp_step]
      rcases ahead_e (Arr.get k 2) n with h2 | h2 | h2 <;> simp only [r17, h2] <;> simp only [w3] <;> simp
      · rw [lfp_step]; simp [r17]
      · rw [lfp_step]; simp [r17]
  · rw [lfp_step]
    rcases ahead_e (Arr.get k 1) n with h1 | h1 | h1 <;> simp only [r17, h1] <;> simp only [w2] <;> simp
    · rw [lfp_step]
      rcases ahead_e (Arr.get k 2) n with h2 | h2 | h2 <;> simp only [r17, h2] <;> simp only [w3] <;> simp
      · rw [lfp_step]; simp [r17]
      · rw [lfp_step]; simp [r17]
    · rw [lfp_step]
      rcases ahead_e (Arr.get k 2) n with h2 | h2 | h2 <;> simp only [r17, h2] <;> simp only [w3] <;> simp
      · rw [lfp_step]; simp [r17]
      · rw [lfp_step]; simp [r17]
theorem f17_ok : ConOK Try.prog 17 cFollow := con_ok (ConsOK.cons f24_ok ConsOK.nil) L17 Try.func17 rfl fun x y _ h => by
  obtain ⟨k, n, ⟨⟩⟩ := x
  rw [← h]; exact f17_eq k n

theorem get_put_ne {n : Nat} {α : Type} [Inhabited α] (a : Arr n α) (i j : Int) (x : α) (h : i.toNat ≠ j.toNat) : Arr.get (Arr.put a i x) j = Arr.get a j := by
  unfold Arr.get Arr.put
  rw [Array.getD_eq_getD_getElem?, Array.getD_eq_getD_getElem?]
  simp [Vector.setIfInBounds, h]
noncomputable def L18 : List (Nat × LD) := [(2, ⟨⟨[(1, .hole .i), (2, .ptr 0 []), (4, .ptr 1 []), (6, .hole .i)], [(0, (.arr 3 (.st .key)), .hole (.arr 3 (.st .key))), (1, (.arr 3 (.st .key)), .hole (.arr 3 (.st .key)))], []⟩, [(.ret, ⟨[(4, .ptr 1 []), (5, .hole .i)], [(1, (.arr 3 (.st .key)), .hole (.arr 3 (.st .key)))], []⟩), (.exit 0, ⟨[(1, .hole .i), (2, .ptr 0 []), (4, .ptr 1 [])], [(0, (.arr 3 (.st .key)), .hole (.arr 3 (.st .key))), (1, (.arr 3 (.st .key)), .hole (.arr 3 (.st .key)))], []⟩)], 10⟩),
 (7, ⟨⟨[(1, .hole .i), (2, .ptr 0 []), (4, .ptr 1 []), (7, .hole .i)], [(0, (.arr 3 (.st .key)), .hole (.arr 3 (.st .key))), (1, (.arr 3 (.st .key)), .hole (.arr 3 (.st .key)))], []⟩, [(.ret, ⟨[(4, .ptr 1 []), (5, .hole .i)], [(1, (.arr 3 (.st .key)), .hole (.arr 3 (.st .key)))], []⟩), (.exit 2, ⟨[(2, .ptr 0 []), (4, .ptr 1 [])], [(0, (.arr 3 (.st .key)), .hole (.arr 3 (.st .key))), (1, (.arr 3 (.st .key)), .hole (.arr 3 (.st .key)))], []⟩)], 11⟩)]
abbrev X18 := (Int × Unit × Unit × Int × Unit) × (Path × Path × Unit) × Unit
abbrev R18 := (Unit × Int × Unit) × (Path × Unit) × Unit
def r18a : X18 → Option (X18 ⊕ (R18 ⊕ ((Int × Unit × Unit × Unit) × (Path × Path × Unit) × Unit)))
  | ((n, _, _, i, _), (p, b, _), _) =>
    bif decide (i < 3) then bif decide (0 ≤ i) && decide (i < 3) then
        bif !good (Arr.get p i) then some (.inr (.inl (((), 3, ()), (zeroP, ()), ())))
        else some (.inl ((n, (), (), IntKind.i64.wrap (i + 1), ()), (p, b, ()), ()))
      else none
    else some (.inr (.inr ((n, (), (), ()), (p, b, ()), ())))
def r18b : X18 → Option (X18 ⊕ (R18 ⊕ ((Unit × Unit × Unit) × (Path × Path × Unit) × Unit)))
  | ((n, _, _, i, _), (p, b, _), _) =>
    bif decide (i < 3) then bif decide (0 ≤ i) && decide (i < 3) then
        bif !decide ((ahead (Arr.get p i) n).2 = 0) then some (.inr (.inl (((), (ahead (Arr.get p i) n).2, ()), (zeroP, ()), ())))
        else bif decide (0 ≤ i) && decide (i < 3) then some (.inl ((n, (), (), IntKind.i64.wrap (i + 1), ()), (Arr.put p i (ahead (Arr.get p i) n).1, b, ()), ())) else none
      else none
    else some (.inr (.inr (((), (), ()), (p, b, ()), ())))
theorem f18_run (k : Path) (n : Int) : run [(27, cAhead), (21, cGood)] L18 Try.f18 [.arr 3 (.st .key), .i] [.arr 3 (.st .key), .i] (k, n, ()) =
    (lfp r18a ((n, (), (), 0, ()), (k, zeroP, ()), ())).bind fun z => Sum.elim (fun x => some (x.2.1.1, x.1.2.1, ()))
      (fun z => (lfp r18b ((z.1.1, (), (), 0, ()), (z.2.1.1, z.2.1.2.1, ()), ())).bind fun z => Sum.elim (fun x => some (x.2.1.1, x.1.2.1, ())) (fun z => some (z.2.1.1, 0, ())) z) z := by kernel_rfl
theorem f18_eq (k : Path) (n : Int) : run [(27, cAhead), (21, cGood)] L18 Try.f18 [.arr 3 (.st .key), .i] [.arr 3 (.st .key), .i] (k, n, ()) = some ((follow k n).1, (follow k n).2, ()) := by
  rw [f18_run]
  have w1 : IntKind.i64.wrap (0 + 1) = 1 := by decide
  have w2 : IntKind.i64.wrap (1 + 1) = 2 := by decide
  have w3 : IntKind.i64.wrap (2 + 1) = 3 := by decide
  unfold follow
  rw [lfp_step]
  cases g0 : good (Arr.get k 0) with
  | false =>
    have h0 := (ahead_3 _ n).2 g0
    simp [r18a, g0, h0]
  | true =>
    have h0 : ¬ (ahead (Arr.get k 0) n).2 = 3 := fun h => by rw [(ahead_3 _ n).1 h] at g0; cases g0
    simp only [r18a, g0]; simp only [w1]; simp
    rw [lfp_step]
    cases g1 : good (Arr.get k 1) with
    | false =>
      have h1 := (ahead_3 _ n).2 g1
      simp [r18a, g1, h1]
    | true =>
      have h1 : ¬ (ahead (Arr.get k 1) n).2 = 3 := fun h => by rw [(ahead_3 _ n).1 h] at g1; cases g1
      simp only [r18a, g1]; simp only [w2]; simp
      rw [lfp_step]
      cases g2 : good (Arr.get k 2) with
      | false =>
        have h2 := (ahead_3 _ n).2 g2
        simp [r18a, g2, h2]
      | true =>
        have h2 : ¬ (ahead (Arr.get k 2) n).2 = 3 := fun h => by rw [(ahead_3 _ n).1 h] at g2; cases g2
        simp only [r18a, g2]; simp only [w3]; simp
        rw [lfp_step]
        simp [r18a, h0, h1, h2]
        rw [lfp_step]
        rcases ahead_e (Arr.get k 0) n with e0 | e0 | e0
        · simp only [r18b, e0]; simp only [w1]; simp
          rw [lfp_step]
          rcases ahead_e (Arr.get k 1) n with e1 | e1 | e1
          · simp only [r18b]; rw [get_put_ne _ _ _ _ (by decide)]; simp only [e1]; simp only [w2]; simp
            rw [lfp_step]
            rcases ahead_e (Arr.get k 2) n with e2 | e2 | e2
            · simp only [r18b]; rw [get_put_ne _ _ _ _ (by decide), get_put_ne _ _ _ _ (by decide)]; simp only [e2]; simp only [w3]; simp
              rw [lfp_step]; simp [r18b]
            · exact absurd e2 h2
            · simp only [r18b]; rw [get_put_ne _ _ _ _ (by decide), get_put_ne _ _ _ _ (by decide)]; simp only [e2]; simp
          · exact absurd e1 h1
          · simp only [r18b]; rw [get_put_ne _ _ _ _ (by decide)]; simp only [e1]; simp
        · exact absurd e0 h0
        · simp only [r18b, e0]; simp
theorem f18_ok : ConOK Try.prog 18 cFollow := con_ok (ConsOK.cons f27_ok (ConsOK.cons f21_ok ConsOK.nil)) L18 Try.func18 rfl fun x y _ h => by
  obtain ⟨k, n, ⟨⟩⟩ := x
  rw [← h]; exact f18_eq k n
abbrev cLives : Con := ⟨[], [.bool], fun _ => some (true, ())⟩
theorem f7_run (k : Path) (n : Int) : run [(9, cLives), (17, cFollow), (18, cFollow)] [] Try.f7 [.arr 3 (.st .key), .i] [.bool] (k, n, ()) =
    bif decide ((follow k n).1 = (follow k n).1) then some (decide ((follow k n).2 = (follow k n).2), ()) else some (false, ()) := by kernel_rfl
theorem f7_ok : ConOK Try.prog 7 ⟨[.arr 3 (.st .key), .i], [.bool], fun _ => some (true, ())⟩ := con_ok (ConsOK.cons f9_ok (ConsOK.cons f17_ok (ConsOK.cons f18_ok ConsOK.nil))) [] Try.func7 rfl fun x y _ h => by
  obtain ⟨k, n, ⟨⟩⟩ := x
  rw [← h, f7_run]
  simp
end Go.Proofs.Ytpbjflmdoboklaa
