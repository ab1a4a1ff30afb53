/-
  The key's functions, each as it is computed.
  Own text, for the claims about coterie.
-/
import Derived.Test.YtpbjflmdoboklaaRtA
import Derived.IntWalk
namespace Go.Proofs.Ytpbjflmdoboklaa
open Go Go.Co Go.Proofs

theorem fine_i {n : Int} : Fine .i n ↔ -9223372036854775808 ≤ n ∧ n ≤ 9223372036854775807 := by
  rw [Fine.int, inKind_iff]; rfl
theorem fine_key {k : Key} : Fine (.st .key) k ↔ (-9223372036854775808 ≤ k.Base ∧ k.Base ≤ 9223372036854775807) ∧ (-9223372036854775808 ≤ k.Step ∧ k.Step ≤ 9223372036854775807) := by
  rw [Fine.st]
  show Fine (.prod .i (.prod .i .unit)) (k.Base, k.Step, ()) ↔ _
  rw [Fine.prod, Fine.prod, Fine.unit, fine_i, fine_i]
  simp

def good (k : Key) : Bool := decide (1 ≤ k.Base) && decide (k.Base ≤ 65535) && decide (0 ≤ k.Step) && decide (k.Step ≤ 255)
theorem good_iff {k : Key} : good k = true ↔ 1 ≤ k.Base ∧ k.Base ≤ 65535 ∧ 0 ≤ k.Step ∧ k.Step ≤ 255 := by
  simp [good, and_assoc]
abbrev cGood : Con := ⟨[.st .key], [.bool], fun x => some (good x.1, ())⟩
theorem f20_run (k : Key) : run [] [] Try.f20 [.st .key] [.bool] (k, ()) = bif decide (0 < k.Base) then bif decide (k.Base ≤ 65535) then bif decide (0 ≤ k.Step) then some (decide (k.Step ≤ 255), ()) else some (false, ()) else some (false, ()) else some (false, ()) := by kernel_rfl
theorem f20_ok : ConOK Try.prog 20 cGood := con_ok ConsOK.nil [] Try.func20 rfl fun x y _ h => by
  obtain ⟨k, ⟨⟩⟩ := x
  rw [← h, f20_run]
  have : decide (0 < k.Base) = decide (1 ≤ k.Base) := by congr 1
  simp only [good, this]
  cases decide (1 ≤ k.Base) <;> cases decide (k.Base ≤ 65535) <;> cases decide (0 ≤ k.Step) <;> rfl
theorem f21_run (k : Key) : run [] [] Try.f21 [.st .key] [.bool] (k, ()) = bif decide (1 ≤ k.Base) then bif decide (k.Base ≤ 65535) then bif decide (0 ≤ k.Step) then some (decide (k.Step ≤ 255), ()) else some (false, ()) else some (false, ()) else some (false, ()) := by kernel_rfl
theorem f21_ok : ConOK Try.prog 21 cGood := con_ok ConsOK.nil [] Try.func21 rfl fun x y _ h => by
  obtain ⟨k, ⟨⟩⟩ := x
  rw [← h, f21_run]
  simp only [good]
  cases decide (1 ≤ k.Base) <;> cases decide (k.Base ≤ 65535) <;> cases decide (0 ≤ k.Step) <;> rfl

/-- The key n steps on. -/
def ahead (k : Key) (n : Int) : Key × Int :=
  if good k = true then if 0 ≤ n ∧ k.Step + n ≤ 255 then (⟨k.Base, k.Step + n⟩, 0) else (⟨0, 0⟩, 4) else (⟨0, 0⟩, 3)
abbrev cAhead : Con := ⟨[.st .key, .i], [.st .key, .i], fun x => some ((ahead x.1 x.2.1).1, (ahead x.1 x.2.1).2, ())⟩
theorem f24_run (k : Key) (n : Int) : run [(20, cGood)] [] Try.f24 [.st .key, .i] [.st .key, .i] (k, n, ()) =
    bif !good k then some ({ Base := 0, Step := 0 }, 3, ())
    else bif decide (n < 0) then some ({ Base := 0, Step := 0 }, 4, ())
      else bif decide (IntKind.i64.wrap (255 - k.Step) < n) then some ({ Base := 0, Step := 0 }, 4, ())
        else some ({ Base := k.Base, Step := IntKind.i64.wrap (k.Step + n) }, 0, ()) := by kernel_rfl
theorem f24_eq (k : Key) (n : Int) : run [(20, cGood)] [] Try.f24 [.st .key, .i] [.st .key, .i] (k, n, ()) = some ((ahead k n).1, (ahead k n).2, ()) := by
  rw [f24_run]
  simp only [ahead]
  cases hg : good k with
  | false => simp
  | true =>
    have hg' := good_iff.1 hg
    simp only [Bool.not_true, cond_false, if_true]
    rw [Go.IntWalk.i64_in _ (by omega)]
    by_cases hn : n < 0
    · rw [if_neg (by omega)]; simp [hn]
    · by_cases hn2 : 255 - k.Step < n
      · rw [if_neg (by omega)]; simp [hn, hn2]
      · rw [if_pos (by omega), Go.IntWalk.i64_in _ (by omega)]; simp [hn, hn2]
theorem f24_ok : ConOK Try.prog 24 cAhead := con_ok (ConsOK.cons f20_ok ConsOK.nil) [] Try.func24 rfl fun x y _ h => by
  obtain ⟨k, n, ⟨⟩⟩ := x
  rw [← h]; exact f24_eq k n

noncomputable def L27 : List (Nat × LD) := [(6, ⟨⟨[(1, .hole .i), (2, .ptr 0 []), (4, .ptr 1 []), (6, .hole .i)], [(0, (.st .key), .hole (.st .key)), (1, (.st .key), .hole (.st .key))], []⟩, [(.exit 0, ⟨[(2, .ptr 0 []), (4, .ptr 1 [])], [(0, (.st .key), .hole (.st .key)), (1, (.st .key), .hole (.st .key))], []⟩)], 10⟩)]
def r27 : (Int × Unit × Unit × Int × Unit) × (Key × Key × Unit) × Unit → Option (((Int × Unit × Unit × Int × Unit) × (Key × Key × Unit) × Unit) ⊕ ((Unit × Unit × Unit) × (Key × Key × Unit) × Unit))
  | ((n, _, _, i, _), (k, b, _), _) =>
    bif decide (i < n) then some (.inl ((n, (), (), IntKind.i64.wrap (i + 1), ()), ({ Base := k.Base, Step := IntKind.i64.wrap (k.Step + 1) }, b, ()), ()))
    else some (.inr (((), (), ()), (k, b, ()), ()))
theorem f27_run (k : Key) (n : Int) : run [(21, cGood)] L27 Try.f27 [.st .key, .i] [.st .key, .i] (k, n, ()) =
    bif !good k then some ({ Base := 0, Step := 0 }, 3, ())
    else bif decide (n < 0) then some ({ Base := 0, Step := 0 }, 4, ())
      else bif decide (255 < n) then some ({ Base := 0, Step := 0 }, 4, ())
        else (lfp r27 ((n, (), (), 0, ()), (k, St.key.zero, ()), ())).bind fun z => bif !good z.2.1.1 then some ({ Base := 0, Step := 0 }, 4, ()) else some (z.2.1.1, 0, ()) := by kernel_rfl
theorem r27_all (k b : Key) (n : Int) (hk : good k = true) (hn : n ≤ 255) : ∀ (d : Nat) (i : Int), 0 ≤ i → i + d = n → lfp r27 ((n, (), (), i, ()), (⟨k.Base, k.Step + i⟩, b, ()), ()) = some (((), (), ()), (⟨k.Base, k.Step + n⟩, b, ()), ()) := by
  have hk := good_iff.1 hk
  intro d
  induction d with
  | zero =>
    intro i h0 hi
    have : i = n := by omega
    subst this
    exact lfp_inr (by simp [r27])
  | succ d ih =>
    intro i h0 hi
    have h1 : i < n := by omega
    rw [lfp_inl (x' := ((n, (), (), i + 1, ()), (⟨k.Base, k.Step + (i + 1)⟩, b, ()), ())) (by
      simp only [r27, h1, decide_true, cond_true]
      rw [Go.IntWalk.i64_in _ (by omega), Go.IntWalk.i64_in _ (by omega), Int.add_assoc])]
    exact ih (i + 1) (by omega) (by omega)
theorem f27_eq (k : Key) (n : Int) : run [(21, cGood)] L27 Try.f27 [.st .key, .i] [.st .key, .i] (k, n, ()) = some ((ahead k n).1, (ahead k n).2, ()) := by
  rw [f27_run]
  simp only [ahead]
  cases hg : good k with
  | false => simp
  | true =>
    have hg' := good_iff.1 hg
    simp only [Bool.not_true, cond_false, if_true]
    by_cases hn : n < 0
    · rw [if_neg (by omega)]; simp [hn]
    · by_cases hn2 : 255 < n
      · rw [if_neg (by omega)]; simp [hn, hn2]
      · have hl := r27_all k St.key.zero n hg (by omega) n.toNat 0 (by omega) (by omega)
        simp only [Int.add_zero] at hl
        simp only [hn, hn2, decide_false, cond_false]
        rw [show lfp r27 ((n, (), (), 0, ()), (k, St.key.zero, ()), ()) = _ from hl]
        simp only [Option.bind_some]
        by_cases hs : k.Step + n ≤ 255
        · have : good ⟨k.Base, k.Step + n⟩ = true := good_iff.2 ⟨hg'.1, hg'.2.1, by simp only; omega, hs⟩
          rw [if_pos ⟨by omega, hs⟩, this]; simp
        · have : good ⟨k.Base, k.Step + n⟩ = false := by
            cases hq : good ⟨k.Base, k.Step + n⟩ with
            | false => rfl
            | true => have := good_iff.1 hq; simp only at this; omega
          rw [if_neg (fun h => hs h.2), this]; simp
theorem f27_ok : ConOK Try.prog 27 cAhead := con_ok (ConsOK.cons f21_ok ConsOK.nil) L27 Try.func27 rfl fun x y _ h => by
  obtain ⟨k, n, ⟨⟩⟩ := x
  rw [← h]; exact f27_eq k n
end Go.Proofs.Ytpbjflmdoboklaa
