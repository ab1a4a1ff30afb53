/-
  What a step of the server does, told seat by seat and node by node; the new tree is right.
  Own text, for the claims about coterie. No program in sight.
-/
import Derived.Test.YtghmcodjbkmlnaaN12R
namespace Go.Co.N
open Go Go.Co

/-! ### Rosters -/
structure GoodR (r : Roster) : Prop where
  one : ∀ s : Nat, s < 64 → ent r s = zeroE ∨ goodE (ent r s) = true
  who : ∀ s k : Nat, s < 64 → k < 64 → isOn r s = true → isOn r k = true → (ent r s).Who = (ent r k).Who → s = k
  base : ∀ s k : Nat, s < 64 → k < 64 → isOn r s = true → isOn r k = true → (ent r s).Base = (ent r k).Base → s = k
theorem goodR_iff {r : Roster} : goodRoster r = true ↔ GoodR r := by
  constructor
  · intro h
    refine ⟨fun s hs => ?_, fun s k hs hk h1 h2 => roster_who h hs hk h1 h2, fun s k hs hk h1 h2 => roster_base h hs hk h1 h2⟩
    by_cases hon : isOn r s = true
    · exact .inr (roster_on h hs hon).1
    · exact .inl (roster_off h hs hon)
  · intro h
    refine allN_iff.2 fun s hs => ?_
    unfold entOk
    rcases h.one s hs with h0 | h1
    · simp [h0]
    · rw [h1, Bool.or_eq_true]
      refine .inr ?_
      rw [Bool.true_and]
      refine allN_iff.2 fun k hk => ?_
      have hb : isOn r s = true := isOn_iff.2 (by have := (goodE_iff.1 h1).2.2.1; omega)
      by_cases hk0 : (ent r k).Base = 0
      · simp [hk0]
      · have hkon : isOn r k = true := isOn_iff.2 hk0
        have n1 : ¬ (ent r k).Who = (ent r s).Who := fun e => by have := h.who k s (by omega) hs hkon hb e; omega
        have n2 : ¬ (ent r k).Base = (ent r s).Base := fun e => by have := h.base k s (by omega) hs hkon hb e; omega
        simp [n1, n2]
theorem GoodR.leave {r : Roster} (h : GoodR r) {s : Nat} (hs : s < 64) : GoodR (Arr.put r (s : Int) zeroE) := by
  refine ⟨fun k hk => ?_, fun i k hi hk h1 h2 he => ?_, fun i k hi hk h1 h2 he => ?_⟩
  · rw [ent_put r hs]
    split
    · exact .inl rfl
    · exact h.one k hk
  all_goals
    rw [isOn_put r hs] at h1 h2
    rw [ent_put r hs, ent_put r hs] at he
    by_cases e1 : s = i
    · rw [if_pos e1] at h1; simp at h1
    by_cases e2 : s = k
    · rw [if_pos e2] at h2; simp at h2
    rw [if_neg e1] at h1 he
    rw [if_neg e2] at h2 he
  · exact h.who i k hi hk h1 h2 he
  · exact h.base i k hi hk h1 h2 he
theorem leave_all : ∀ (l : List Int) (r : Roster), canLeave r l → GoodR r →
    (leaveGo l r).2 = goneOf r l ∧ ∀ k : Nat, k < 64 → ent (leaveGo l r).1 k = if isOn r k = true ∧ (ent r k).Who ∈ l then zeroE else ent r k
  | [], r, _, _ => ⟨rfl, fun k hk => by simp [leaveGo]⟩
  | w :: l, r, hc, hg => by
    obtain ⟨s, hs, he, hon, hw, hn⟩ := canLeave_next hc
    obtain ⟨i1, i2⟩ := leave_all l _ hn (hg.leave hs)
    have hnd := List.nodup_cons.1 hc.2
    simp only [leaveGo, he]
    constructor
    · rw [i1]
      simp only [goneOf, List.map_cons, he]
      congr 1
      refine List.map_congr_left fun x hx => ?_
      rw [findR_put hs (fun e => hnd.1 (by rw [← hw, e]; exact hx)) (.inl rfl)]
    · intro k hk
      rw [i2 k hk, isOn_put r hs, ent_put r hs]
      by_cases e : s = k
      · subst e
        simp [hon, hw]
      · rw [if_neg e, if_neg e]
        by_cases hkon : isOn r k = true
        · have hne : (ent r k).Who ≠ w := fun h => e (hg.who s k hs hk hon hkon (by rw [hw, h]))
          simp [hkon, hne]
        · simp [hkon]
theorem join_all (since : Int) : ∀ (l : List Int) (base : Int) (r : Roster), l.length ≤ freeN r → 1 ≤ base →
    (∀ (i : Nat) (w : Int), l[i]? = some w → ∃ s : Nat, s < 64 ∧ isOn r s = false ∧ (joinGo since l base r).2[i]? = some ⟨w, s⟩ ∧ ent (joinGo since l base r).1 s = ⟨w, base + i, since⟩) ∧
    (∀ k : Nat, k < 64 → (∀ x ∈ (joinGo since l base r).2, x.Slot ≠ k) → ent (joinGo since l base r).1 k = ent r k) ∧
    (∀ x ∈ (joinGo since l base r).2, ∃ s : Nat, s < 64 ∧ x.Slot = s ∧ isOn r s = false) ∧
    ((joinGo since l base r).2.map (·.Slot)).Nodup
  | [], base, r, _, _ => ⟨fun i w h => by simp at h, fun k _ _ => rfl, fun x hx => by simp [joinGo] at hx, by simp [joinGo]⟩
  | w :: l, base, r, hf, hb => by
    obtain ⟨s, hs, he, hoff, _⟩ := lowFree_ok (r := r) (by simp only [List.length_cons] at hf; omega)
    have hf2 := freeN_join r hs ⟨w, base, since⟩
    obtain ⟨j1, j2, j3, j4⟩ := join_all since l (base + 1) (Arr.put r (s : Int) ⟨w, base, since⟩) (by simp only [List.length_cons] at hf; omega) (by omega)
    have hon' : isOn (Arr.put r (s : Int) ⟨w, base, since⟩) s = true := by
      rw [isOn_put r hs, if_pos rfl]
      have : ¬ base = 0 := by omega
      simp [this]
    have hoff' : ∀ k : Nat, isOn (Arr.put r (s : Int) ⟨w, base, since⟩) k = false → k ≠ s ∧ isOn r k = false := fun k hk => by
      have hne : k ≠ s := fun e => by rw [e, hon'] at hk; cases hk
      rw [isOn_put r hs, if_neg (fun e => hne e.symm)] at hk
      exact ⟨hne, hk⟩
    have hns : ∀ x ∈ (joinGo since l (base + 1) (Arr.put r (s : Int) ⟨w, base, since⟩)).2, x.Slot ≠ s := fun x hx hxs => by
      obtain ⟨k, _, hk, ho⟩ := j3 x hx
      have := (hoff' k ho).1
      rw [hk] at hxs; omega
    simp only [joinGo, he]
    refine ⟨fun i w' hi => ?_, fun k hk hno => ?_, fun x hx => ?_, ?_⟩
    · cases i with
      | zero =>
        simp only [List.getElem?_cons_zero, Option.some.injEq] at hi
        subst hi
        refine ⟨s, hs, hoff, rfl, ?_⟩
        rw [j2 s hs hns, ent_put r hs, if_pos rfl]
        simp
      | succ i =>
        simp only [List.getElem?_cons_succ] at hi
        obtain ⟨k, hk, ho, h1, h2⟩ := j1 i w' hi
        refine ⟨k, hk, (hoff' k ho).2, by simpa using h1, ?_⟩
        rw [h2, show base + 1 + (i : Int) = base + ((i + 1 : Nat) : Int) by omega]
    · have h1 := hno _ (List.mem_cons_self ..)
      rw [j2 k hk fun x hx => hno x (List.mem_cons_of_mem _ hx), ent_put r hs, if_neg (fun e => h1 (by rw [e]))]
    · rcases List.mem_cons.1 hx with rfl | hx
      · exact ⟨s, hs, rfl, hoff⟩
      · obtain ⟨k, hk, h1, h2⟩ := j3 x hx
        exact ⟨k, hk, h1, (hoff' k h2).2⟩
    · simp only [List.map_cons, List.nodup_cons]
      refine ⟨fun hm => ?_, j4⟩
      obtain ⟨x, hx, hxs⟩ := List.mem_map.1 hm
      exact hns x hx hxs

/-! ### Steps -/
section
variable {t : Tree} {b : Batch} (h : (nextT t b).e = 0)
include h
theorem nx_left : (nextT t b).left = goneOf t.Roster b.Leaves := by
  obtain ⟨hg, _, hfi, _, hm, he⟩ := nextT_ok h
  obtain ⟨h1, h2, _, _⟩ := fits_ok hfi
  rw [he]
  show (stepMove t b).left = _
  unfold stepMove
  rw [(move_joined hm).1, moveGo]
  exact (leave_all _ _ (canLeave_of h2) (goodR_iff.1 h1)).1
theorem nx_turn : (nextT t b).t.Keys = turned t.Keys (replaced (nextT t b).left) t.Fresh ∧ goodKeys t.Keys = true ∧ replaced (nextT t b).left < 2097152 ∧
    free t.Keys t.Fresh (cntTo (replaced (nextT t b).left) 21) = true ∧ (∀ v : Nat, v < 21 → inB (replaced (nextT t b).left) v = true ∨ stp t.Keys v < 255) := by
  obtain ⟨hg, _, hfi, ht, hm, he⟩ := nextT_ok h
  have hk : (nextT t b).t.Keys = (stepTurn t b).1 := by rw [he]
  rw [hk, nx_left h]
  obtain ⟨h1, h2, h3, h4, h5⟩ := turn_ok ht
  exact ⟨by unfold stepTurn; rw [h5], h1, h2, h3, h4⟩
theorem nx_epoch : (nextT t b).t.Epoch = t.Epoch + 1 ∧ 0 ≤ t.Epoch ∧ t.Epoch < 200 := by
  obtain ⟨hg, h1, _, _, _, he⟩ := nextT_ok h
  exact ⟨by rw [he], (goodTree_iff.1 hg).1, h1⟩
theorem nx_fresh : (nextT t b).t.Fresh = t.Fresh + cntTo (replaced (nextT t b).left) 21 + b.Joins.length := by
  obtain ⟨_, _, _, ht, _, he⟩ := nextT_ok h
  rw [nx_left h]
  have hf : (nextT t b).t.Fresh = (stepTurn t b).2.1 + b.Joins.length := by rw [he]
  rw [hf, stepTurn, turn_fresh ht]
theorem nx_room : (nextT t b).t.Fresh ≤ 32768 ∧ 22 ≤ t.Fresh ∧ 0 ≤ cntTo (replaced (nextT t b).left) 21 := by
  obtain ⟨hg, _, _, ht, hm, _⟩ := nextT_ok h
  obtain ⟨_, _, h22, hlt, _, _, _, _⟩ := goodTree_iff.1 hg
  have hc := cntTo_le (replaced (nextT t b).left) 21
  have hfr := (nx_turn h).2.2.2.1
  have hnf := (move_joined hm).2.2.2
  rw [stepTurn, turn_fresh ht] at hnf
  rw [← nx_left h] at hnf
  have hfe := nx_fresh h
  refine ⟨?_, h22, hc.1⟩
  rw [hfe]
  by_cases hj : b.Joins.length = 0
  · rcases free_cnt hfr with h0 | ⟨_, h0, _⟩ <;> omega
  · have hz : ¬ (b.Joins.length : Int) = 0 := by omega
    unfold namesFree at hnf
    simp only [hz, decide_false, Bool.false_or, Bool.and_eq_true, decide_eq_true_eq] at hnf
    omega
theorem nx_leaves : b.Leaves.Nodup ∧ ∀ w ∈ b.Leaves, ∃ s : Nat, s < 64 ∧ findR t.Roster w = s ∧ isOn t.Roster s = true ∧ (ent t.Roster s).Who = w := by
  obtain ⟨_, _, hfi, _, _, _⟩ := nextT_ok h
  obtain ⟨_, h2, _, _⟩ := fits_ok hfi
  obtain ⟨h3, h4⟩ := askL_0 h2
  refine ⟨h4, fun w hw => ?_⟩
  obtain ⟨s, hs, he, hon, hwho, _⟩ := findR_some ((h3 w hw).2.2.2.2 rfl)
  exact ⟨s, hs, he, hon, hwho⟩
theorem nx_joins : b.Joins.Nodup ∧ ∀ w ∈ b.Joins, 0 ≤ w ∧ w < 256 ∧ w ∉ b.Leaves ∧ ∀ s : Nat, s < 64 → isOn t.Roster s = true → (ent t.Roster s).Who ≠ w := by
  obtain ⟨_, _, hfi, _, _, _⟩ := nextT_ok h
  obtain ⟨_, _, h2, _⟩ := fits_ok hfi
  obtain ⟨h3, h4⟩ := askL_0 h2
  refine ⟨h4, fun w hw => ?_⟩
  obtain ⟨k1, k2, k3, k4⟩ := h3 w hw
  refine ⟨k1, k2, k3, (findR_none fun hge => ?_).2⟩
  have := k4.1 hge
  cases this
/-- The names that joiners get begin here. -/
theorem nx_moved : (∀ (i : Nat) (w : Int), b.Joins[i]? = some w → ∃ s : Nat, s < 64 ∧ (nextT t b).joined[i]? = some ⟨w, s⟩ ∧ ent (nextT t b).t.Roster s = ⟨w, t.Fresh + cntTo (replaced (nextT t b).left) 21 + i, t.Epoch + 1⟩ ∧ (isOn t.Roster s = true → (ent t.Roster s).Who ∈ b.Leaves)) ∧
    (∀ k : Nat, k < 64 → (∀ x ∈ (nextT t b).joined, x.Slot ≠ k) → ent (nextT t b).t.Roster k = if isOn t.Roster k = true ∧ (ent t.Roster k).Who ∈ b.Leaves then zeroE else ent t.Roster k) ∧
    ((nextT t b).joined.map (·.Slot)).Nodup := by
  obtain ⟨hg, _, hfi, ht, hm, he⟩ := nextT_ok h
  obtain ⟨h1, h2, _, _⟩ := fits_ok hfi
  obtain ⟨_, l2⟩ := leave_all _ _ (canLeave_of h2) (goodR_iff.1 h1)
  have hroom := move_room hfi
  have hr := nx_room h
  have hbase : (stepTurn t b).2.1 = t.Fresh + cntTo (replaced (nextT t b).left) 21 := by rw [nx_left h, stepTurn, turn_fresh ht]
  have hmv : stepMove t b = moveGo t.Roster b (t.Epoch + 1) (stepTurn t b).2.1 := (move_joined hm).1
  rw [hbase] at hmv
  have hj : (nextT t b).joined = (joinGo (t.Epoch + 1) b.Joins (t.Fresh + cntTo (replaced (nextT t b).left) 21) (leaveGo b.Leaves t.Roster).1).2 := by
    have : (nextT t b).joined = (stepMove t b).joined := by rw [he]
    rw [this, hmv]; rfl
  have hro : (nextT t b).t.Roster = (joinGo (t.Epoch + 1) b.Joins (t.Fresh + cntTo (replaced (nextT t b).left) 21) (leaveGo b.Leaves t.Roster).1).1 := by
    have : (nextT t b).t.Roster = (stepMove t b).r := by rw [he]
    rw [this, hmv]; rfl
  obtain ⟨j1, j2, j3, j4⟩ := join_all (t.Epoch + 1) b.Joins (t.Fresh + cntTo (replaced (nextT t b).left) 21) (leaveGo b.Leaves t.Roster).1 hroom.1 (by omega)
  rw [← hj] at j1 j2 j3 j4
  rw [← hro] at j1 j2
  refine ⟨fun i w hi => ?_, fun k hk hno => ?_, j4⟩
  · obtain ⟨s, hs, hoff, a1, a2⟩ := j1 i w hi
    refine ⟨s, hs, a1, a2, fun hon => ?_⟩
    apply Classical.byContradiction
    intro hno
    have hl := l2 s hs
    rw [if_neg (fun hc => hno hc.2)] at hl
    unfold isOn at hoff hon
    rw [hl, hon] at hoff
    cases hoff
  · rw [j2 k hk hno, l2 k hk]
theorem nx_joined_at {x : Co.Seat} (hx : x ∈ (nextT t b).joined) : ∃ (i s : Nat), b.Joins[i]? = some x.Who ∧ i < b.Joins.length ∧ s < 64 ∧ x.Slot = s ∧ ent (nextT t b).t.Roster s = ⟨x.Who, t.Fresh + cntTo (replaced (nextT t b).left) 21 + i, t.Epoch + 1⟩ ∧ (isOn t.Roster s = true → (ent t.Roster s).Who ∈ b.Leaves) := by
  obtain ⟨i, hi⟩ := List.getElem?_of_mem hx
  have hlen := (nextT_joined h).1
  have hil : i < b.Joins.length := by
    have := (List.getElem?_eq_some_iff.1 hi).1
    omega
  obtain ⟨s, hs, a1, a2, a3⟩ := (nx_moved h).1 i b.Joins[i] (List.getElem?_eq_getElem hil)
  rw [hi] at a1
  simp only [Option.some.injEq] at a1
  subst a1
  exact ⟨i, s, List.getElem?_eq_getElem hil, hil, hs, rfl, a2, a3⟩
/-- A seat of the new tree: it stayed, somebody joined there, or it is free. -/
theorem nx_seat (k : Nat) (hk : k < 64) : (∃ x ∈ (nextT t b).joined, x.Slot = k) ∨
    ((∀ x ∈ (nextT t b).joined, x.Slot ≠ k) ∧ ((isOn t.Roster k = true ∧ (ent t.Roster k).Who ∈ b.Leaves ∧ ent (nextT t b).t.Roster k = zeroE) ∨ (¬ (isOn t.Roster k = true ∧ (ent t.Roster k).Who ∈ b.Leaves) ∧ ent (nextT t b).t.Roster k = ent t.Roster k))) := by
  by_cases hj : ∃ x ∈ (nextT t b).joined, x.Slot = k
  · exact .inl hj
  · have hno : ∀ x ∈ (nextT t b).joined, x.Slot ≠ k := fun x hx e => hj ⟨x, hx, e⟩
    refine .inr ⟨hno, ?_⟩
    have := (nx_moved h).2.1 k hk hno
    by_cases hc : isOn t.Roster k = true ∧ (ent t.Roster k).Who ∈ b.Leaves
    · rw [if_pos hc] at this; exact .inl ⟨hc.1, hc.2, this⟩
    · rw [if_neg hc] at this; exact .inr ⟨hc, this⟩
theorem nx_roster : GoodR (nextT t b).t.Roster := by
  obtain ⟨hg, _, hfi, _, _, _⟩ := nextT_ok h
  obtain ⟨_, _, _, _, _, hgr, _, hgs⟩ := goodTree_iff.1 hg
  have hR := goodR_iff.1 hgr
  have hep := nx_epoch h
  have hfr := nx_fresh h
  have hro := nx_room h
  obtain ⟨hnd, hjs⟩ := nx_joins h
  have seat : ∀ k : Nat, k < 64 → isOn (nextT t b).t.Roster k = true → (∃ i : Nat, i < b.Joins.length ∧ b.Joins[i]? = some (ent (nextT t b).t.Roster k).Who ∧ (ent (nextT t b).t.Roster k).Base = t.Fresh + cntTo (replaced (nextT t b).left) 21 + i) ∨ (isOn t.Roster k = true ∧ ent (nextT t b).t.Roster k = ent t.Roster k) := fun k hk hon => by
    rcases nx_seat h k hk with ⟨x, hx, hxk⟩ | ⟨_, ⟨_, _, hz⟩ | ⟨_, he⟩⟩
    · obtain ⟨i, s, h1, h2, hs, h3, h4, _⟩ := nx_joined_at h hx
      have : s = k := by omega
      subst this
      exact .inl ⟨i, h2, by rw [h4]; exact h1, by rw [h4]⟩
    · unfold isOn at hon; rw [hz] at hon; simp at hon
    · refine .inr ⟨?_, he⟩
      unfold isOn at hon ⊢
      rwa [he] at hon
  have place : ∀ k : Nat, k < 64 → isOn (nextT t b).t.Roster k = true → ∀ a : Nat, (ent (nextT t b).t.Roster k).Base = t.Fresh + cntTo (replaced (nextT t b).left) 21 + (a : Int) → ∃ w, (nextT t b).joined[a]? = some ⟨w, k⟩ := fun k hk hon a hb => by
    rcases nx_seat h k hk with ⟨x, hx, hxk⟩ | ⟨_, ⟨_, _, hz⟩ | ⟨_, he⟩⟩
    · obtain ⟨j, hj⟩ := List.getElem?_of_mem hx
      have hjl : j < b.Joins.length := by have := (List.getElem?_eq_some_iff.1 hj).1; have := (nextT_joined h).1; omega
      obtain ⟨s3, hs3, c1, c2, _⟩ := (nx_moved h).1 j b.Joins[j] (List.getElem?_eq_getElem hjl)
      rw [hj] at c1
      simp only [Option.some.injEq] at c1
      have e3 : s3 = k := by rw [c1] at hxk; simp only at hxk; omega
      subst e3
      rw [c2] at hb
      simp only at hb
      have e4 : j = a := by omega
      subst e4
      exact ⟨_, by rw [hj, c1]⟩
    · unfold isOn at hon; rw [hz] at hon; simp at hon
    · rw [he] at hb
      have := (hgs k hk).1
      omega
  have hbase : ∀ i k : Nat, i < 64 → k < 64 → isOn (nextT t b).t.Roster i = true → isOn (nextT t b).t.Roster k = true → (ent (nextT t b).t.Roster i).Base = (ent (nextT t b).t.Roster k).Base → i = k := fun i k hi hk h1 h2 he => by
    rcases seat i hi h1 with ⟨a, ha, ha1, ha2⟩ | ⟨ho1, he1⟩ <;> rcases seat k hk h2 with ⟨c, hc, hc1, hc2⟩ | ⟨ho2, he2⟩
    · have hac : a = c := by omega
      subst hac
      obtain ⟨w1, e1⟩ := place i hi h1 a ha2
      obtain ⟨w2, e2⟩ := place k hk h2 a hc2
      rw [e1] at e2
      simp only [Option.some.injEq, Seat.mk.injEq] at e2
      omega
    · have := (hgs k hk).1
      rw [ha2, he2] at he; omega
    · have := (hgs i hi).1
      rw [hc2, he1] at he; omega
    · exact hR.base i k hi hk ho1 ho2 (by rw [← he1, ← he2, he])
  refine ⟨fun k hk => ?_, fun i k hi hk h1 h2 he => ?_, hbase⟩
  · rcases nx_seat h k hk with ⟨x, hx, hxk⟩ | ⟨_, ⟨_, _, hz⟩ | ⟨_, he⟩⟩
    · obtain ⟨i, s, a1, a2, hs, a3, a4, _⟩ := nx_joined_at h hx
      have : s = k := by omega
      subst this
      rw [a4]
      have hw := hjs x.Who (List.mem_of_getElem? a1)
      refine .inr (goodE_iff.2 ⟨hw.1, hw.2.1, ?_, ?_, ?_, ?_⟩) <;> simp only <;> omega
    · exact .inl hz
    · rw [he]; exact hR.one k hk
  · rcases seat i hi h1 with ⟨a, ha, ha1, ha2⟩ | ⟨ho1, he1⟩ <;> rcases seat k hk h2 with ⟨c, hc, hc1, hc2⟩ | ⟨ho2, he2⟩
    · have hac : a = c := by
        rw [he] at ha1
        exact (List.getElem?_inj ha hnd).1 (ha1.trans hc1.symm)
      subst hac
      exact hbase i k hi hk h1 h2 (by rw [ha2, hc2])
    · have := hjs _ (List.mem_of_getElem? ha1)
      exact absurd (by rw [he, he2]) (this.2.2.2 k hk ho2)
    · have := hjs _ (List.mem_of_getElem? hc1)
      exact absurd (by rw [← he, he1]) (this.2.2.2 i hi ho1)
    · exact hR.who i k hi hk ho1 ho2 (by rw [← he1, ← he2, he])
/-- The new tree is right. -/
theorem nx_good : goodTree (nextT t b).t = true := by
  obtain ⟨hg, _, hfi, _, _, _⟩ := nextT_ok h
  obtain ⟨_, _, _, _, _, hgr, hgk, hgs⟩ := goodTree_iff.1 hg
  have hep := nx_epoch h
  have hfr := nx_fresh h
  have hro := nx_room h
  obtain ⟨hk, hk1, hk2, hk3, hk4⟩ := nx_turn h
  have key : ∀ v : Nat, v < 21 → (inB (replaced (nextT t b).left) v = true ∧ t.Fresh ≤ bas (nextT t b).t.Keys v ∧ bas (nextT t b).t.Keys v < t.Fresh + cntTo (replaced (nextT t b).left) 21 ∧ stp (nextT t b).t.Keys v = 0) ∨ (¬ inB (replaced (nextT t b).left) v = true ∧ bas (nextT t b).t.Keys v = bas t.Keys v ∧ stp (nextT t b).t.Keys v = stp t.Keys v + 1) := fun v hv => by
    rw [hk, bas, stp, turned_get _ _ _ v hv]
    by_cases hin : inB (replaced (nextT t b).left) v = true
    · have := fresh_bounds (k := t.Keys) hk3 hv hin
      exact .inl ⟨hin, this.1, this.2.1, this.2.2.2.2.1⟩
    · rw [kept_at hin]
      exact .inr ⟨hin, rfl, rfl⟩
  refine goodTree_iff.2 ⟨by omega, by omega, by omega, hro.1, ?_, goodR_iff.2 (nx_roster h), fun v hv => ?_, fun s hs => ?_⟩
  · rw [hk]; exact goodKeys_turned hk1 hk3 hk4
  · have := hgk v hv
    rcases key v hv with ⟨_, h1, h2, h3⟩ | ⟨_, h1, h2⟩ <;> omega
  · have hb0 : ∀ v : Nat, v < 21 → 1 ≤ bas (nextT t b).t.Keys v := fun v hv => by
      have := good_iff.1 (goodKeys_iff.1 hk1 v hv).1
      rcases key v hv with ⟨_, h1, h2, h3⟩ | ⟨_, h1, h2⟩
      · omega
      · rw [h1]; exact this.1
    rcases nx_seat h s hs with ⟨x, hx, hxk⟩ | ⟨_, ⟨_, _, hz⟩ | ⟨_, he⟩⟩
    · obtain ⟨i, k, a1, a2, hs2, a3, a4, _⟩ := nx_joined_at h hx
      have : k = s := by omega
      subst this
      rw [a4]
      refine ⟨by simp only; omega, by simp only; omega, fun v hv => ?_⟩
      have := hgk v hv
      simp only
      rcases key v hv with ⟨_, h1, h2, h3⟩ | ⟨_, h1, h2⟩ <;> omega
    · rw [hz]
      refine ⟨by simp only; omega, by simp only; omega, fun v hv => ?_⟩
      have := hb0 v hv
      simp only; omega
    · rw [he]
      have h0 := hgs s hs
      refine ⟨by omega, by omega, fun v hv => ?_⟩
      rcases key v hv with ⟨_, h1, h2, h3⟩ | ⟨_, h1, h2⟩
      · omega
      · rw [h1]; exact h0.2.2 v hv
end
end Go.Co.N
