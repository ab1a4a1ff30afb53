/-
  Members: what a message does to a device's state.
  Own text, for the claims about coterie. No program in sight.
-/
import Derived.Test.YtghmcodjbkmlnaaN15G
import Derived.Test.YtghmcodjbkmlnaaN15P
namespace Go.Co.N
open Go Go.Co

theorem eq_member_next : Eqs c_member_next g_member_next := Eqs.tot fun (m, r, _) hf => by
  change Member at m
  change Rekey at r
  have hfr := fine_rekey (r := r) hf.2.1
  simp only [g_member_next, nextM]
  have loop2 : (Option.bind (lfp g_member_next_r2 ((r.Leaves, (), (r.Leaves.length : Int), 0, ()), (m, r, St.zero St.member, ()), ())) fun z => Sum.elim (fun x : (Int × Unit) × (Member × Rekey × Member × Unit) × Unit => bif decide (0 ≤ x.1.1) then some (Member.mk x.2.1.1.Who 0 x.2.1.2.1.Epoch (St.zero St.key) (Vector.replicate 3 (St.zero St.key)) false true 0, (0 : Int), ()) else some ((followM x.2.1.1 x.2.1.2.1).1, (followM x.2.1.1 x.2.1.2.1).2, ())) (fun z : Unit × (Member × Rekey × Member × Unit) × Unit => some ((followM z.2.1.1 z.2.1.2.1).1, (followM z.2.1.1 z.2.1.2.1).2, ())) z) =
      some ((bif r.Leaves.any (fun s => decide (s.Who = m.Who)) then (outM m.Who r.Epoch, 0) else followM m r).1, (bif r.Leaves.any (fun s => decide (s.Who = m.Who)) then (outM m.Who r.Epoch, 0) else followM m r).2, ()) := by
    rw [lfp_find' (fun i => ((r.Leaves, (), (r.Leaves.length : Int), (i : Int), ()), (m, r, St.zero St.member, ()), ())) r.Leaves.length (fun i => (fun s : Co.Seat => decide (s.Who = m.Who)) (lat r.Leaves (i : Int))) (fun i => Sum.inl (((i : Int), ()), (m, r, St.zero St.member, ()), ())) (.inr ((), (m, r, St.zero St.member, ()), ())) (by rfl)
      (fun i hi hb => by
        have h1 : (i : Int) < (r.Leaves.length : Int) := by omega
        simp only [g_member_next_r2, h1, decide_true, cond_true, Int.natCast_nonneg, Bool.and_self, wrap1' hi (by omega), hb, cond_false])
      (fun i hi hb => by
        have h1 : (i : Int) < (r.Leaves.length : Int) := by omega
        simp only [g_member_next_r2, h1, decide_true, cond_true, Int.natCast_nonneg, Bool.and_self, hb])
      (by simp [g_member_next_r2])]
    rw [← fstN_any]
    cases fstN r.Leaves.length (fun i => (fun s : Co.Seat => decide (s.Who = m.Who)) (lat r.Leaves (i : Int))) 0 with
    | none => rfl
    | some i => simp [outM]
  by_cases he : r.Epoch = m.Epoch
  · simp only [he, decide_true, cond_true]
    rw [lfp_find' (fun i => ((r.Joins, (), (r.Joins.length : Int), (i : Int), ()), (m, r, St.zero St.member, Seat.mk m.Who m.Slot, Seat.mk m.Who m.Slot, ()), ())) r.Joins.length (fun i => (fun s : Co.Seat => decide ((⟨m.Who, m.Slot⟩ : Co.Seat) = s)) (lat r.Joins (i : Int))) (fun i => Sum.inl (((i : Int), ()), (m, r, St.zero St.member, Seat.mk m.Who m.Slot, ()), ())) (.inr ((), (m, r, St.zero St.member, Seat.mk m.Who m.Slot, ()), ())) (by rfl)
      (fun i hi hb => by
        have h1 : (i : Int) < (r.Joins.length : Int) := by omega
        simp only [g_member_next_r1, h1, decide_true, cond_true, Int.natCast_nonneg, Bool.and_self, wrap1' hi (by omega), hb, cond_false])
      (fun i hi hb => by
        have h1 : (i : Int) < (r.Joins.length : Int) := by omega
        simp only [g_member_next_r1, h1, decide_true, cond_true, Int.natCast_nonneg, Bool.and_self, hb])
      (by simp [g_member_next_r1])]
    rw [← fstN_any]
    cases fstN r.Joins.length (fun i => (fun s : Co.Seat => decide ((⟨m.Who, m.Slot⟩ : Co.Seat) = s)) (lat r.Joins (i : Int))) 0 with
    | none => rfl
    | some i => simp [he]
  · simp only [he, decide_false, cond_false]
    exact loop2

/-! ### Kinds -/
theorem kind_cases (m : Member) : kind m = -1 ∨ (kind m = 0 ∧ m = zeroM) ∨ (kind m = 1 ∧ m = outM m.Who m.Epoch ∧ betw m.Who 0 255 = true ∧ betw m.Epoch 1 200 = true) ∨
    (kind m = 2 ∧ m.Out = false ∧ goodCard (cardOf m) = true ∧ calmB m = true ∧ m.Has = false ∧ m.Path = zeroP) ∨
    (kind m = 3 ∧ m.Out = false ∧ goodCard (cardOf m) = true ∧ calmB m = true ∧ m.Has = true ∧ goodPath m.Path = true) := by
  unfold kind
  by_cases h0 : m = zeroM
  · rw [decide_eq_true h0]; exact .inr (.inl ⟨rfl, h0⟩)
  rw [decide_eq_false h0]
  cases ho : m.Out with
  | true =>
    simp only [cond_true, cond_false]
    by_cases h1 : m = outM m.Who m.Epoch
    · rw [decide_eq_true h1]
      cases h2 : betw m.Who 0 255 <;> cases h3 : betw m.Epoch 1 200 <;> simp [← h1]
    · rw [decide_eq_false h1]; exact .inl rfl
  | false =>
    simp only [cond_false]
    cases hg : goodCard (cardOf m) with
    | false => exact .inl rfl
    | true =>
      cases hc : calmB m with
      | false => exact .inl rfl
      | true =>
        cases hh : m.Has with
        | true =>
          cases hp : goodPath m.Path with
          | false => exact .inl rfl
          | true => exact .inr (.inr (.inr (.inr ⟨rfl, trivial, rfl, rfl, rfl, rfl⟩)))
        | false =>
          by_cases hp : m.Path = zeroP
          · rw [decide_eq_true hp]; exact .inr (.inr (.inr (.inl ⟨rfl, trivial, rfl, rfl, rfl, hp⟩)))
          · rw [decide_eq_false hp]; exact .inl rfl
theorem goodCard_epoch {m : Member} (h : goodCard (cardOf m) = true) : 0 ≤ m.Who ∧ m.Who ≤ 255 ∧ 0 ≤ m.Slot ∧ m.Slot ≤ 63 ∧ 1 ≤ m.Epoch ∧ m.Epoch ≤ 200 ∧ good m.Leaf = true := by
  unfold goodCard cardOf at h
  simp only [Bool.and_eq_true, betw_iff] at h
  exact ⟨h.1.1.1.1, h.1.1.1.2, h.1.1.2.1, h.1.1.2.2, h.1.2.1, h.1.2.2, h.2⟩
theorem goodMsg_rekey (r : Rekey) : goodMsg (Message.mk 1 r (St.zero St.request) (St.zero St.reply) (St.zero St.sealed)) = goodRekey r := by
  have h2 : decide ((St.zero St.request : Request) = zeroQ) = true := by decide
  have h3 : decide ((St.zero St.reply : Reply) = zeroY) = true := decide_eq_true rfl
  have h4 : decide ((St.zero St.sealed : Sealed) = zeroS) = true := decide_eq_true rfl
  unfold goodMsg
  simp only [h2, h3, h4]
  simp
theorem eq_member_Apply : Eqs c_member_Apply g_member_Apply := Eqs.tot fun (m, r, _) hf => by
  change Member at m
  change Rekey at r
  simp only [g_member_Apply, applyM, goodMsg_rekey]
  have hn : (bif decide ((nextM m r).1.Behind ≤ (nextM m r).1.Epoch) then some (Member.mk (nextM m r).1.Who (nextM m r).1.Slot (nextM m r).1.Epoch (nextM m r).1.Leaf (nextM m r).1.Path (nextM m r).1.Has (nextM m r).1.Out 0, (0 : Int), ()) else some ((nextM m r).1, 0, ())) = some (calm (nextM m r).1, 0, ()) := by
    unfold calm
    cases decide ((nextM m r).1.Behind ≤ (nextM m r).1.Epoch) <;> rfl
  rcases kind_cases m with h | ⟨h, _⟩ | ⟨h, _⟩ | ⟨h, _, hg, _⟩ | ⟨h, _, hg, _⟩
  · rw [h]; rfl
  · rw [h]; rfl
  · rw [h]; rfl
  · have := goodCard_epoch hg
    rw [h, i64_in (m.Epoch + 1) (by omega), hn]
    have d1 : decide ((2 : Int) ≤ 0) = false := rfl
    have d2 : decide ((2 : Int) = 1) = false := rfl
    have d3 : decide ((2 : Int) = 3) = false := rfl
    have d4 : decide ((2 : Int) = 2) = true := rfl
    simp only [d1, d2, d3, d4, cond_true, cond_false, Bool.false_and, Bool.true_and]
    cases goodRekey r <;> cases decide (r.Epoch < m.Epoch) <;> cases decide (m.Epoch + 1 < r.Epoch) <;> cases decide (m.Epoch < r.Epoch) <;> cases decide ((nextM m r).2 = 0) <;> rfl
  · have := goodCard_epoch hg
    rw [h, i64_in (m.Epoch + 1) (by omega), hn]
    have d1 : decide ((3 : Int) ≤ 0) = false := rfl
    have d2 : decide ((3 : Int) = 1) = false := rfl
    have d3 : decide ((3 : Int) = 3) = true := rfl
    have d4 : decide ((3 : Int) = 2) = false := rfl
    simp only [d1, d2, d3, d4, cond_true, cond_false, Bool.false_and, Bool.true_and]
    cases goodRekey r <;> cases decide (r.Epoch < m.Epoch) <;> cases decide (r.Epoch = m.Epoch) <;> cases decide (m.Epoch + 1 < r.Epoch) <;> cases decide ((nextM m r).2 = 0) <;> rfl
end Go.Co.N
