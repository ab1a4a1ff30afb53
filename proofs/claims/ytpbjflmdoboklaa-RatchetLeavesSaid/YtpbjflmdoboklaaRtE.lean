/-
  Leaf keys.
  Own text, for the claims about coterie.
-/
import Derived.Test.YtpbjflmdoboklaaRtD
namespace Go.Proofs.Ytpbjflmdoboklaa
open Go Go.Co Go.Proofs

def gives (a b : Key) : Bool := good a && good b && decide (a.Base = b.Base) && decide (a.Step ≤ b.Step)
abbrev cGives : Con := ⟨[.st .key, .st .key], [.bool], fun x => some (gives x.1 x.2.1, ())⟩
theorem f14_run (a b : Key) : run [(21, cGood)] [] Try.f14 [.st .key, .st .key] [.bool] (a, b, ()) =
    bif good a then bif good b then bif decide (a.Base = b.Base) then some (decide (a.Step ≤ b.Step), ()) else some (false, ()) else some (false, ()) else some (false, ()) := by kernel_rfl
theorem f14_eq (a b : Key) : run [(21, cGood)] [] Try.f14 [.st .key, .st .key] [.bool] (a, b, ()) = some (gives a b, ()) := by
  rw [f14_run]
  unfold gives
  cases good a <;> cases good b <;> cases decide (a.Base = b.Base) <;> rfl
theorem f14_ok : ConOK Try.prog 14 cGives := con_ok (ConsOK.cons f21_ok ConsOK.nil) [] Try.func14 rfl fun x y _ h => by
  obtain ⟨a, b, ⟨⟩⟩ := x
  rw [← h]; exact f14_eq a b

def leafAt (e : Entry) (n : Int) : Key × Int :=
  if e.Base = 0 then (⟨0, 0⟩, 16)
  else if e.Base < 1 ∨ 32768 ≤ e.Base ∨ e.Since < 1 ∨ 200 < e.Since then (⟨0, 0⟩, 31)
  else if n < e.Since then (⟨0, 0⟩, 21)
  else if e.Since + 255 < n then (⟨0, 0⟩, 4)
  else (⟨e.Base, n - e.Since⟩, 0)
abbrev cLeaf : Con := ⟨[.st .entry, .i], [.st .key, .i], fun x => some ((leafAt x.1 x.2.1).1, (leafAt x.1 x.2.1).2, ())⟩
theorem f15_run (e : Entry) (n : Int) : run [(24, cAhead)] [] Try.f15 [.st .entry, .i] [.st .key, .i] (e, n, ()) =
    bif decide (e.Base = 0) then some ({ Base := 0, Step := 0 }, 16, ())
    else bif decide (e.Base < 0) then some ({ Base := 0, Step := 0 }, 31, ())
    else bif decide (32768 ≤ e.Base) then some ({ Base := 0, Step := 0 }, 31, ())
    else bif decide (e.Since < 1) then some ({ Base := 0, Step := 0 }, 31, ())
    else bif decide (200 < e.Since) then some ({ Base := 0, Step := 0 }, 31, ())
    else bif decide (n < e.Since) then some ({ Base := 0, Step := 0 }, 21, ())
    else some ((ahead { Base := e.Base, Step := 0 } (IntKind.i64.wrap (n - e.Since))).1, (ahead { Base := e.Base, Step := 0 } (IntKind.i64.wrap (n - e.Since))).2, ()) := by kernel_rfl
theorem f15_eq (e : Entry) (n : Int) (hn : n ≤ 9223372036854775807) : run [(24, cAhead)] [] Try.f15 [.st .entry, .i] [.st .key, .i] (e, n, ()) = some ((leafAt e n).1, (leafAt e n).2, ()) := by
  rw [f15_run]
  unfold leafAt
  by_cases h0 : e.Base = 0
  · simp [h0]
  by_cases h1 : e.Base < 1 ∨ 32768 ≤ e.Base ∨ e.Since < 1 ∨ 200 < e.Since
  · rw [if_neg h0, if_pos h1]
    rcases h1 with h1 | h1 | h1 | h1
    · have : e.Base < 0 := by omega
      simp [h0, this]
    · simp [h0, h1]
    · simp [h0, h1]
    · simp [h0, h1]
  · rw [if_neg h0, if_neg h1]
    have g1 : ¬ e.Base < 0 := by omega
    have g2 : ¬ 32768 ≤ e.Base := by omega
    have g3 : ¬ e.Since < 1 := by omega
    have g4 : ¬ 200 < e.Since := by omega
    by_cases h2 : n < e.Since
    · simp [h0, g1, g2, g3, g4, h2]
    · simp only [h0, g1, g2, g3, g4, h2, decide_false, cond_false, if_false]
      rw [Go.IntWalk.i64_in _ (by omega)]
      have hg : good ⟨e.Base, 0⟩ = true := good_iff.2 ⟨by simp only; omega, by simp only; omega, by simp, by simp⟩
      unfold ahead
      rw [if_pos hg]
      by_cases h3 : e.Since + 255 < n
      · rw [if_pos h3, if_neg (by simp only; omega)]
      · rw [if_neg h3, if_pos (by simp only; omega)]; simp
theorem f15_ok : ConOK Try.prog 15 cLeaf := con_ok (ConsOK.cons f24_ok ConsOK.nil) [] Try.func15 rfl fun x y hf h => by
  obtain ⟨e, n, ⟨⟩⟩ := x
  rw [← h]; exact f15_eq e n (fine_i.1 hf.2.1).2
theorem f16_run (e : Entry) (n : Int) : run [] [] Try.f16 [.st .entry, .i] [.st .key, .i] (e, n, ()) =
    bif decide (e.Base = 0) then some ({ Base := 0, Step := 0 }, 16, ())
    else bif decide (e.Base < 1) then some ({ Base := 0, Step := 0 }, 31, ())
    else bif decide (32768 ≤ e.Base) then some ({ Base := 0, Step := 0 }, 31, ())
    else bif decide (e.Since < 1) then some ({ Base := 0, Step := 0 }, 31, ())
    else bif decide (200 < e.Since) then some ({ Base := 0, Step := 0 }, 31, ())
    else bif decide (n < e.Since) then some ({ Base := 0, Step := 0 }, 21, ())
    else bif decide (IntKind.i64.wrap (e.Since + 255) < n) then some ({ Base := 0, Step := 0 }, 4, ())
    else some ({ Base := e.Base, Step := IntKind.i64.wrap (n - e.Since) }, 0, ()) := by kernel_rfl
theorem f16_eq (e : Entry) (n : Int) (hn : n ≤ 9223372036854775807) : run [] [] Try.f16 [.st .entry, .i] [.st .key, .i] (e, n, ()) = some ((leafAt e n).1, (leafAt e n).2, ()) := by
  rw [f16_run]
  unfold leafAt
  by_cases h0 : e.Base = 0
  · simp [h0]
  by_cases h1 : e.Base < 1 ∨ 32768 ≤ e.Base ∨ e.Since < 1 ∨ 200 < e.Since
  · rw [if_neg h0, if_pos h1]
    rcases h1 with h1 | h1 | h1 | h1 <;> simp [h0, h1]
  · rw [if_neg h0, if_neg h1]
    have g1 : ¬ e.Base < 1 := by omega
    have g2 : ¬ 32768 ≤ e.Base := by omega
    have g3 : ¬ e.Since < 1 := by omega
    have g4 : ¬ 200 < e.Since := by omega
    by_cases h2 : n < e.Since
    · simp [h0, g1, g2, g3, g4, h2]
    · simp only [h0, g1, g2, g3, g4, h2, decide_false, cond_false, if_false]
      rw [Go.IntWalk.i64_in _ (by omega), Go.IntWalk.i64_in _ (by omega)]
      by_cases h3 : e.Since + 255 < n <;> simp [h3]
theorem f16_ok : ConOK Try.prog 16 cLeaf := con_ok ConsOK.nil [] Try.func16 rfl fun x y hf h => by
  obtain ⟨e, n, ⟨⟩⟩ := x
  rw [← h]; exact f16_eq e n (fine_i.1 hf.2.1).2

theorem f6_run (e : Entry) (n : Int) : run [(9, cLives), (15, cLeaf), (16, cLeaf), (14, cGives)] [] Try.f6 [.st .entry, .i] [.bool] (e, n, ()) =
  bif !decide ((leafAt e n).1 = (leafAt e n).1) then
    bif decide ((leafAt e n).1 = (leafAt e n).1) then some (decide ((leafAt e n).2 = (leafAt e n).2), ()) else some (false, ())
  else
    bif !decide ((leafAt e n).2 = (leafAt e n).2) then
      bif decide ((leafAt e n).1 = (leafAt e n).1) then some (decide ((leafAt e n).2 = (leafAt e n).2), ()) else some (false, ())
    else
      bif !decide ((leafAt e n).2 = 0) then
        bif decide ((leafAt e n).1 = (leafAt e n).1) then some (decide ((leafAt e n).2 = (leafAt e n).2), ()) else some (false, ())
      else
        bif decide (200 ≤ n) then
          bif decide ((leafAt e n).1 = (leafAt e n).1) then some (decide ((leafAt e n).2 = (leafAt e n).2), ()) else some (false, ())
        else
          bif decide ((leafAt e (IntKind.i64.wrap (n + 1))).2 = 0) then
            bif gives (leafAt e n).1 (leafAt e (IntKind.i64.wrap (n + 1))).1 then
              some (!gives (leafAt e (IntKind.i64.wrap (n + 1))).1 (leafAt e n).1, ())
            else some (false, ())
          else some (false, ()) := by kernel_rfl
theorem f6_eq (e : Entry) (n : Int) (hn : -9223372036854775808 ≤ n) : run [(9, cLives), (15, cLeaf), (16, cLeaf), (14, cGives)] [] Try.f6 [.st .entry, .i] [.bool] (e, n, ()) = some (true, ()) := by
  rw [f6_run]
  by_cases h1 : (leafAt e n).2 = 0
  · by_cases h2 : 200 ≤ n
    · simp [h2]
    · have hok : leafAt e n = (⟨e.Base, n - e.Since⟩, 0) ∧ leafAt e (n + 1) = (⟨e.Base, n + 1 - e.Since⟩, 0) ∧ 1 ≤ e.Base ∧ e.Base ≤ 32767 ∧ e.Since ≤ n ∧ n ≤ e.Since + 254 := by
        unfold leafAt at h1 ⊢
        by_cases g0 : e.Base = 0
        · rw [if_pos g0] at h1; simp at h1
        rw [if_neg g0] at h1
        by_cases g1 : e.Base < 1 ∨ 32768 ≤ e.Base ∨ e.Since < 1 ∨ 200 < e.Since
        · rw [if_pos g1] at h1; simp at h1
        rw [if_neg g1] at h1
        by_cases g2 : n < e.Since
        · rw [if_pos g2] at h1; simp at h1
        rw [if_neg g2] at h1
        by_cases g3 : e.Since + 255 < n
        · rw [if_pos g3] at h1; simp at h1
        have g4 : ¬ n + 1 < e.Since := by omega
        have g5 : ¬ e.Since + 255 < n + 1 := by omega
        refine ⟨by rw [if_neg g0, if_neg g1, if_neg g2, if_neg g3], by rw [if_neg g0, if_neg g1, if_neg g4, if_neg g5], by omega, by omega, by omega, by omega⟩
      obtain ⟨q1, q2, q3, q4, q5, q6⟩ := hok
      rw [Go.IntWalk.i64_in _ (by omega), q2, q1]
      have ga : good ⟨e.Base, n - e.Since⟩ = true := good_iff.2 ⟨q3, by simp only; omega, by simp only; omega, by simp only; omega⟩
      have gb : good ⟨e.Base, n + 1 - e.Since⟩ = true := good_iff.2 ⟨q3, by simp only; omega, by simp only; omega, by simp only; omega⟩
      have k1 : gives ⟨e.Base, n - e.Since⟩ ⟨e.Base, n + 1 - e.Since⟩ = true := by simp [gives, ga, gb]; omega
      have k2 : gives ⟨e.Base, n + 1 - e.Since⟩ ⟨e.Base, n - e.Since⟩ = false := by simp [gives, ga, gb]; omega
      simp [k1, k2, h2]
  · simp [h1]
theorem f6_ok : ConOK Try.prog 6 ⟨[.st .entry, .i], [.bool], fun _ => some (true, ())⟩ := con_ok (ConsOK.cons f9_ok (ConsOK.cons f15_ok (ConsOK.cons f16_ok (ConsOK.cons f14_ok ConsOK.nil)))) [] Try.func6 rfl fun x y hf h => by
  obtain ⟨e, n, ⟨⟩⟩ := x
  rw [← h]; exact f6_eq e n (fine_i.1 hf.2.1).1
end Go.Proofs.Ytpbjflmdoboklaa
