/-
  Members: messages of a row of steps, in any order.
  Own text, for the claims about coterie. No program in sight.
-/
import Derived.Test.YtghmcodjbkmlnaaN15L
namespace Go.Co.N
open Go Go.Co

/-- Trees, each made of the one before, and the messages. -/
structure Runs (trees : List Tree) (row : List Rekey) : Prop where
  len : trees.length = row.length + 1
  step : ∀ i : Nat, i < row.length → ∃ b, (nextT (lat trees (i : Int)) b).e = 0 ∧ lat trees ((i + 1 : Nat) : Int) = (nextT (lat trees (i : Int)) b).t ∧ lat row (i : Int) = msgOf (lat trees (i : Int)) b
theorem Runs.one (t : Tree) : Runs [t] [] := ⟨rfl, fun i hi => by simp at hi⟩
theorem Runs.more {trees : List Tree} {row : List Rekey} (h : Runs trees row) {b : Batch} (hn : (nextT (lat trees (row.length : Int)) b).e = 0) : Runs (trees ++ [(nextT (lat trees (row.length : Int)) b).t]) (row ++ [msgOf (lat trees (row.length : Int)) b]) := by
  have hl := h.len
  refine ⟨by simp [hl], fun i hi => ?_⟩
  simp only [List.length_append, List.length_cons, List.length_nil] at hi
  by_cases e : i = row.length
  · subst e
    refine ⟨b, ?_, ?_, ?_⟩
    · rw [lat_app_lt _ _ (by omega)]; exact hn
    · rw [show ((row.length + 1 : Nat) : Int) = (trees.length : Int) by omega, lat_app_last, lat_app_lt _ _ (by omega)]
    · rw [lat_app_last, lat_app_lt _ _ (by omega)]
  · obtain ⟨b', h1, h2, h3⟩ := h.step i (by omega)
    refine ⟨b', ?_, ?_, ?_⟩
    · rw [lat_app_lt _ _ (by omega)]; exact h1
    · rw [lat_app_lt _ _ (by omega), lat_app_lt _ _ (by omega)]; exact h2
    · rw [lat_app_lt _ _ (by omega), lat_app_lt _ _ (by omega)]; exact h3
theorem Runs.epoch {trees : List Tree} {row : List Rekey} (h : Runs trees row) : ∀ i : Nat, i ≤ row.length → (lat trees (i : Int)).Epoch = (lat trees 0).Epoch + i
  | 0, _ => by simp
  | i + 1, hi => by
    obtain ⟨b, h1, h2, _⟩ := h.step i (by omega)
    rw [h2, (nx_epoch h1).1, Runs.epoch h i (by omega)]; omega
theorem Runs.good {trees : List Tree} {row : List Rekey} (h : Runs trees row) (hr : 0 < row.length) (i : Nat) (hi : i ≤ row.length) : goodTree (lat trees (i : Int)) = true := by
  cases i with
  | zero =>
    obtain ⟨b, h1, _, _⟩ := h.step 0 hr
    exact (nextT_ok h1).1
  | succ i =>
    obtain ⟨b, h1, h2, _⟩ := h.step i (by omega)
    rw [h2]; exact nx_good h1
theorem Runs.le {trees : List Tree} {row : List Rekey} (h : Runs trees row) : row.length ≤ 200 := by
  by_cases hr : row.length = 0
  · omega
  · have h0 := h.epoch row.length (by omega)
    have hg := goodTree_iff.1 (h.good (by omega) row.length (by omega))
    have hg0 := goodTree_iff.1 (h.good (by omega) 0 (by omega))
    have : (lat trees ((0 : Nat) : Int)) = lat trees 0 := rfl
    rw [this] at hg0
    omega
theorem runs_loop1 (t : Tree) (picks : List Int) (script : List Batch) (hs : script.length ≤ 140737488355328) : ∀ (d i : Nat) (trees : List Tree) (row : List Rekey), i + d = script.length → Runs trees row → lat trees 0 = t →
    ∃ trees' row', Runs trees' row' ∧ lat trees' 0 = t ∧ lfp g_law15_MemberRuns_r1 ((picks, (), trees, row, script, (script.length : Int), (i : Int), ()), (t, ()), ()) = some ((picks, (), trees', row', ()), (t, ()), ()) := by
  intro d
  induction d with
  | zero =>
    intro i trees row hi hc h0
    refine ⟨trees, row, hc, h0, lfp_inr ?_⟩
    have : ¬ (i : Int) < (script.length : Int) := by omega
    simp only [g_law15_MemberRuns_r1, this, decide_false, cond_false]
  | succ d ih =>
    intro i trees row hi hc hz
    have h1 : (i : Int) < (script.length : Int) := by omega
    have h0 : (0 : Int) ≤ (i : Int) := by omega
    have hw : IntKind.i64.wrap ((i : Int) + 1) = ((i + 1 : Nat) : Int) := by rw [i64_in _ (by omega)]; omega
    have hl := hc.len
    have hle := hc.le
    have hw2 : IntKind.i64.wrap ((trees.length : Int) - 1) = (row.length : Int) := by rw [i64_in _ (by omega)]; omega
    have p1 : (0 : Int) ≤ (row.length : Int) := by omega
    have p2 : (row.length : Int) < (trees.length : Int) := by omega
    by_cases hn : (nextT (lat trees (row.length : Int)) (lat script (i : Int))).e = 0
    · have hc' := hc.more hn
      have hz' : lat (trees ++ [(nextT (lat trees (row.length : Int)) (lat script (i : Int))).t]) 0 = t := by
        rw [show (0 : Int) = ((0 : Nat) : Int) from rfl, lat_app_lt _ _ (by omega)]; exact hz
      obtain ⟨trees', row', g1, g2, g3⟩ := ih (i + 1) _ _ (by omega) hc' hz'
      refine ⟨trees', row', g1, g2, ?_⟩
      rw [← g3]
      apply lfp_inl
      have hb : (trees.length + 1) * 1888 ≤ 140737488355328 := by omega
      have hb2 : (row.length + 1) * 80 ≤ 140737488355328 := by omega
      have hne : (nextR (lat trees (row.length : Int)) (lat script (i : Int))).2.2 = 0 := by rw [nextR_e]; exact hn
      simp only [g_law15_MemberRuns_r1, h1, h0, hw, hw2, p1, p2, hne, hb, hb2, decide_true, Bool.and_self, cond_true, nextR_is hn]
      rfl
    · obtain ⟨trees', row', g1, g2, g3⟩ := ih (i + 1) trees row (by omega) hc hz
      refine ⟨trees', row', g1, g2, ?_⟩
      rw [← g3]
      apply lfp_inl
      have hne : ¬ (nextR (lat trees (row.length : Int)) (lat script (i : Int))).2.2 = 0 := by rw [nextR_e]; exact hn
      simp only [g_law15_MemberRuns_r1, h1, h0, hw, hw2, p1, p2, hne, decide_true, decide_false, Bool.and_self, cond_true, cond_false]
/-- Who doesn't leave stays where it sits. -/
theorem nx_stays {t : Tree} {b : Batch} (h : (nextT t b).e = 0) {k : Nat} (hk : k < 64) (hon : isOn t.Roster k = true) (hno : (ent t.Roster k).Who ∉ b.Leaves) : ent (nextT t b).t.Roster k = ent t.Roster k := by
  rcases nx_seat h k hk with ⟨x, hx, hxk⟩ | ⟨_, ⟨_, hl, _⟩ | ⟨_, he⟩⟩
  · obtain ⟨i, s, _, _, hs, a3, _, a5⟩ := nx_joined_at h hx
    have e : s = k := by omega
    subst e
    exact absurd (a5 hon) hno
  · exact absurd hl hno
  · exact he
theorem nx_gone {t : Tree} {b : Batch} (h : (nextT t b).e = 0) {k : Nat} (hk : k < 64) (hon : isOn t.Roster k = true) (hl : (ent t.Roster k).Who ∈ b.Leaves) : ent (nextT t b).t.Roster k ≠ ent t.Roster k := by
  have hb := (goodTree_iff.1 (nextT_ok h).1).2.2.2.2.2.2.2 k hk
  have hr := nx_room h
  have hb0 := isOn_iff.1 hon
  rcases nx_seat h k hk with ⟨x, hx, hxk⟩ | ⟨_, ⟨_, _, hz⟩ | ⟨hno, _⟩⟩
  · obtain ⟨i, s, _, _, hs, a3, a4, _⟩ := nx_joined_at h hx
    have e : s = k := by omega
    subst e
    intro he
    have := congrArg Entry.Base he
    rw [a4] at this
    simp only at this
    omega
  · intro he
    rw [hz] at he
    exact hb0 (by rw [← he])
  · exact absurd ⟨hon, hl⟩ hno
theorem apply_gap {n : Tree} (hg : goodTree n = true) {s : Nat} (hs : s < 64) (hon : isOn n.Roster s = true) {x : Int} (hx : x = 0 ∨ n.Epoch + 1 ≤ x ∧ x ≤ 200) {r : Rekey} (hr : goodRekey r = true) (he : n.Epoch + 1 < r.Epoch) :
    applyM (withB (standAt n (ent n.Roster s).Who s) x) r = (withB (standAt n (ent n.Roster s).Who s) (max x r.Epoch), 22) := by
  have hme : (withB (standAt n (ent n.Roster s).Who s) x).Epoch = n.Epoch := rfl
  unfold applyM
  rw [kind_withB hg hs hon hx, hr, hme, decide_eq_false (show ¬ r.Epoch < n.Epoch by omega), decide_eq_false (show ¬ r.Epoch = n.Epoch by omega), decide_eq_true he]
  rfl
section
variable {trees : List Tree} {row : List Rekey} (hR : Runs trees row) (hr : 0 < row.length) {t : Tree} {slot : Nat} (hs : slot < 64) (hon : isOn t.Roster slot = true) (picks : List Int) (hp : picks.length * 8 ≤ 140737488355328)
/-- A device that stands at a place of the row. -/
def atRow (trees : List Tree) (t : Tree) (slot at' : Nat) (x : Int) : Member := withB (standAt (lat trees (at' : Int)) (ent t.Roster slot).Who slot) x
include hR hr hs hon hp
theorem runs_loop3 : ∀ (d h at' : Nat) (x : Int), h + d = picks.length → at' ≤ row.length → ent (lat trees (at' : Int)).Roster slot = ent t.Roster slot → (x = 0 ∨ (lat trees (at' : Int)).Epoch + 1 ≤ x ∧ x ≤ 200) →
    ∃ (at2 : Nat) (m : Member), at2 ≤ row.length ∧ (m.Out = true → at2 < row.length ∧ ent (lat trees ((at2 + 1 : Nat) : Int)).Roster slot ≠ ent t.Roster slot) ∧
      lfp g_law15_MemberRuns_r3 ((picks, (), trees, row, (slot : Int), (), (at' : Int), picks, (picks.length : Int), (h : Int), ()), (t, atRow trees t slot at' x, ()), ()) = some (.inl ((picks, (), trees, row, (slot : Int), (), (at2 : Int), ()), (t, m, ()), ())) := by
  intro d
  induction d with
  | zero =>
    intro h at' x hh ha he hx
    refine ⟨at', atRow trees t slot at' x, ha, fun ho => ?_, lfp_inr ?_⟩
    · cases ho
    · have : ¬ (h : Int) < (picks.length : Int) := by omega
      simp only [g_law15_MemberRuns_r3, this, decide_false, cond_false]
  | succ d ih =>
    intro h at' x hh ha he hx
    have hle := hR.le
    have hlen := hR.len
    have h1 : (h : Int) < (picks.length : Int) := by omega
    have h0 : (0 : Int) ≤ (h : Int) := by omega
    have hw : IntKind.i64.wrap ((h : Int) + 1) = ((h + 1 : Nat) : Int) := by rw [i64_in _ (by omega)]; omega
    have hw2 : IntKind.i64.wrap ((at' : Int) + 1) = ((at' + 1 : Nat) : Int) := by rw [i64_in _ (by omega)]; omega
    have hu : IntKind.u64.wrap (row.length : Int) = (row.length : Int) := Go.IntWalk.u64_in _ (by omega)
    have hrn : ¬ (row.length : Int) = 0 := by omega
    obtain ⟨q0, q1⟩ := tmod_wrap (lat picks (h : Int)) (row.length : Int) (by omega) (by omega)
    obtain ⟨i, hi⟩ := Int.eq_ofNat_of_zero_le q0
    rw [hi] at q1
    have hil : i < row.length := by omega
    have hon' : isOn (lat trees (at' : Int)).Roster slot = true := by unfold isOn at hon ⊢; rwa [he]
    have hgat := hR.good hr at' ha
    obtain ⟨b, b1, b2, b3⟩ := hR.step i hil
    have hgr : goodRekey (lat row (i : Int)) = true := by rw [b3]; exact goodRekey_msg b1
    have hre : (lat row (i : Int)).Epoch = (lat trees 0).Epoch + i + 1 := by
      rw [b3]
      show (nextT (lat trees (i : Int)) b).t.Epoch = _
      rw [(nx_epoch b1).1, hR.epoch i (by omega)]
    have hra : (lat trees (at' : Int)).Epoch = (lat trees 0).Epoch + at' := hR.epoch at' ha
    have hst := stand_on hgat hs hon'
    rw [he] at hst
    have hat : atRow trees t slot at' x = withB (standAt (lat trees (at' : Int)) (ent (lat trees (at' : Int)).Roster slot).Who slot) x := by rw [he]; rfl
    have hwho : ∀ y, (withB (standAt (lat trees (at' : Int)) (ent t.Roster slot).Who slot) y).Who = (ent t.Roster slot).Who := fun y => rfl
    have hout : ∀ y, (withB (standAt (lat trees (at' : Int)) (ent t.Roster slot).Who slot) y).Out = false := fun y => rfl
    have hbeh : ∀ y, (withB (standAt (lat trees (at' : Int)) (ent t.Roster slot).Who slot) y).Behind = y := fun y => rfl
    have hepo : ∀ y, (withB (standAt (lat trees (at' : Int)) (ent t.Roster slot).Who slot) y).Epoch = (lat trees (at' : Int)).Epoch := fun y => rfl
    have p1 : (at' : Int) < (trees.length : Int) := by omega
    have p0 : (0 : Int) ≤ (at' : Int) := by omega
    have i0 : (0 : Int) ≤ (i : Int) := by omega
    have hepg := hR.epoch row.length (by omega)
    have hlast := (goodTree_iff.1 (hR.good hr row.length (by omega))).2.1
    rcases Nat.lt_trichotomy i at' with hlt | heq | hgt
    · -- older
      have hap : applyM (atRow trees t slot at' x) (lat row (i : Int)) = (withB (standAt (lat trees (at' : Int)) (ent t.Roster slot).Who slot) x, 21) := by
        rw [hat, apply_old hgat hs hon' hx hgr (by omega), he]
      obtain ⟨at2, m, g1, g2, g3⟩ := ih (h + 1) at' x (by omega) ha he hx
      refine ⟨at2, m, g1, g2, ?_⟩
      rw [← g3]
      apply lfp_inl
      have c1 : (i : Int) < (at' : Int) := by omega
      have c2 : ¬ (at' : Int) < (i : Int) := by omega
      have c3 : ¬ (i : Int) = (at' : Int) := by omega
      have c4 : (if x = 0 then True else ¬ x ≤ (lat trees (at' : Int)).Epoch) := by
        split
        · trivial
        · omega
      simp only [g_law15_MemberRuns_r3, h1, h0, hw, hu, hrn, hi, q1, hap, hout, hwho, hst, hbeh, hepo, c1, c2, c3, p0, p1, i0, decide_true, decide_false, Bool.and_self, cond_true, cond_false, Bool.not_false, Bool.not_true, show ¬ (21 : Int) = 20 by omega, show ¬ (21 : Int) = 0 by omega, show ¬ (21 : Int) = 22 by omega]
      by_cases hx0 : x = 0
      · simp only [hx0, decide_true, Bool.not_true, cond_false]
        simp [atRow, withB, hx0]
      · rw [if_neg hx0] at c4
        simp only [hx0, c4, decide_false, Bool.not_false, cond_true, cond_false]
        simp [atRow, withB]
    · -- due
      subst heq
      by_cases hl : (ent (lat trees (i : Int)).Roster slot).Who ∈ b.Leaves
      · have hap := apply_left b1 hs hon' hl hx
        rw [← hat, ← b3] at hap
        refine ⟨i, outM (ent (lat trees (i : Int)).Roster slot).Who (nextT (lat trees (i : Int)) b).t.Epoch, by omega, fun _ => ⟨hil, ?_⟩, ?_⟩
        · rw [b2, ← he]; exact nx_gone b1 hs hon' hl
        · apply lfp_inr
          simp only [g_law15_MemberRuns_r3, h1, h0, hw, hu, hrn, hi, q1, hap, i0, decide_true, decide_false, Bool.and_self, cond_true, cond_false, Bool.not_false, Bool.not_true]
          rfl
      · have hap := apply_stays b1 hs hon' (nx_stays b1 hs hon' hl) hl hx
        rw [← hat, ← b3, ← b2, he] at hap
        have he2 : ent (lat trees ((i + 1 : Nat) : Int)).Roster slot = ent t.Roster slot := by rw [b2, nx_stays b1 hs hon' hl]; exact he
        have hra2 : (lat trees ((i + 1 : Nat) : Int)).Epoch = (lat trees 0).Epoch + (i + 1 : Nat) := hR.epoch (i + 1) (by omega)
        have hon2 : isOn (lat trees ((i + 1 : Nat) : Int)).Roster slot = true := by unfold isOn at hon ⊢; rwa [he2]
        have hst2 := stand_on (hR.good hr (i + 1) (by omega)) hs hon2
        rw [he2] at hst2
        generalize hxx : (if x ≤ (lat trees (i : Int)).Epoch + 1 then 0 else x) = x' at *
        have hx' : x' = 0 ∨ (lat trees ((i + 1 : Nat) : Int)).Epoch + 1 ≤ x' ∧ x' ≤ 200 := by
          rw [hra2]
          split at hxx <;> omega
        obtain ⟨at2, m, g1, g2, g3⟩ := ih (h + 1) (i + 1) x' (by omega) (by omega) he2 hx'
        refine ⟨at2, m, g1, g2, ?_⟩
        rw [← g3]
        apply lfp_inl
        have hwho2 : ∀ y, (withB (standAt (lat trees ((i + 1 : Nat) : Int)) (ent t.Roster slot).Who slot) y).Who = (ent t.Roster slot).Who := fun y => rfl
        have hout2 : ∀ y, (withB (standAt (lat trees ((i + 1 : Nat) : Int)) (ent t.Roster slot).Who slot) y).Out = false := fun y => rfl
        have hbeh2 : ∀ y, (withB (standAt (lat trees ((i + 1 : Nat) : Int)) (ent t.Roster slot).Who slot) y).Behind = y := fun y => rfl
        have hepo2 : ∀ y, (withB (standAt (lat trees ((i + 1 : Nat) : Int)) (ent t.Roster slot).Who slot) y).Epoch = (lat trees ((i + 1 : Nat) : Int)).Epoch := fun y => rfl
        have c2 : ¬ (i : Int) < (i : Int) := by omega
        have p2 : ((i + 1 : Nat) : Int) < (trees.length : Int) := by omega
        have p3 : (0 : Int) ≤ ((i + 1 : Nat) : Int) := by omega
        have c4 : (if x' = 0 then True else ¬ x' ≤ (lat trees ((i + 1 : Nat) : Int)).Epoch) := by
          split
          · trivial
          · omega
        simp only [g_law15_MemberRuns_r3, h1, h0, hw, hw2, hu, hrn, hi, q1, hap, hout2, hwho2, hst2, hbeh2, hepo2, c2, p2, p3, i0, decide_true, decide_false, Bool.and_self, cond_true, cond_false, Bool.not_false, Bool.not_true, show ¬ (0 : Int) = 20 by omega, show ¬ (0 : Int) = 21 by omega, show ¬ (0 : Int) = 22 by omega]
        by_cases hx0 : x' = 0
        · simp only [hx0, decide_true, Bool.not_true, cond_false]
          simp [atRow, withB, hx0]
        · rw [if_neg hx0] at c4
          simp only [hx0, c4, decide_false, Bool.not_false, cond_true, cond_false]
          simp [atRow, withB]
    · -- a gap
      have hap : applyM (atRow trees t slot at' x) (lat row (i : Int)) = (withB (standAt (lat trees (at' : Int)) (ent t.Roster slot).Who slot) (max x (lat row (i : Int)).Epoch), 22) := by
        rw [hat, apply_gap hgat hs hon' hx hgr (by omega), he]
      generalize hxx : max x (lat row (i : Int)).Epoch = x' at *
      have hx' : (lat trees (at' : Int)).Epoch + 1 ≤ x' ∧ x' ≤ 200 := by omega
      obtain ⟨at2, m, g1, g2, g3⟩ := ih (h + 1) at' x' (by omega) ha he (.inr hx')
      refine ⟨at2, m, g1, g2, ?_⟩
      rw [← g3]
      apply lfp_inl
      have c1 : ¬ (i : Int) < (at' : Int) := by omega
      have c2 : (at' : Int) < (i : Int) := by omega
      have c3 : ¬ (i : Int) = (at' : Int) := by omega
      have hx0 : ¬ x' = 0 := by have := (goodTree_iff.1 hgat).1; omega
      have c4 : ¬ x' ≤ (lat trees (at' : Int)).Epoch := by omega
      have c5 : ¬ x' < (lat row (i : Int)).Epoch := by omega
      simp only [g_law15_MemberRuns_r3, h1, h0, hw, hu, hrn, hi, q1, hap, hout, hwho, hst, hbeh, hepo, c1, c2, c3, c4, c5, hx0, p0, p1, i0, decide_true, decide_false, Bool.and_self, cond_true, cond_false, Bool.not_false, Bool.not_true, show ¬ (22 : Int) = 20 by omega, show ¬ (22 : Int) = 0 by omega, show ¬ (22 : Int) = 21 by omega]
      simp [atRow, withB]
end
theorem eq_law15_MemberRuns : Eqs c_law15_MemberRuns g_law15_MemberRuns := Eqs.tot fun (t, script, picks, _) hf => by
  change Tree at t
  have hs : List.length (script : List Batch) ≤ 140737488355328 := by
    have := (Fine.list.1 hf.2.1).1
    have h2 : List.length (script : List Batch) * 48 ≤ 140737488355328 := this
    omega
  have hp : List.length (picks : List Int) * 8 ≤ 140737488355328 := (Fine.list.1 hf.2.2.1).1
  simp only [g_law15_MemberRuns]
  obtain ⟨trees, row, hR, ht, hl⟩ := runs_loop1 t (picks : List Int) (script : List Batch) hs (List.length (script : List Batch)) 0 [t] [] (by omega) (Runs.one t) rfl
  rw [show lfp g_law15_MemberRuns_r1 (((picks : List Int), (), [t], [], (script : List Batch), (List.length (script : List Batch) : Int), 0, ()), (t, ()), ()) = _ from hl]
  simp only [Option.bind_some]
  by_cases hr : row.length = 0
  · have : ((row.length : Nat) : Int) = 0 := by omega
    simp only [this, decide_true, cond_true]
  have hr' : ¬ ((row.length : Nat) : Int) = 0 := by omega
  have hgt : goodTree t = true := by have := hR.good (by omega) 0 (by omega); rw [show ((0 : Nat) : Int) = 0 from rfl, ht] at this; exact this
  have hlen := hR.len
  have hle := hR.le
  simp only [hr', decide_false, cond_false]
  rw [lfp_run' (fun i => (((picks : List Int), (), trees, row, (i : Int), ()), (t, ()), ())) 64 (by rfl) fun i hi => by
    have h1 : (i : Int) < 64 := by omega
    by_cases hb : (ent t.Roster i).Base = 0
    · simp only [g_law15_MemberRuns_r2, h1, decide_true, cond_true, Int.natCast_nonneg, Bool.and_self, wrap1 i (by omega)]
      rw [show (Arr.get t.Roster (i : Int)).Base = 0 from hb]; rfl
    · have hon : isOn t.Roster i = true := isOn_iff.2 hb
      have hb' : ¬ (Arr.get t.Roster (i : Int)).Base = 0 := hb
      have hst := stand_on hgt hi hon
      have hst2 : stand t (Arr.get t.Roster (i : Int)).Who = (standAt t (Arr.get t.Roster (i : Int)).Who i, 0) := hst
      obtain ⟨at2, m, g1, g2, g3⟩ := runs_loop3 hR (by omega) hi hon (picks : List Int) hp (List.length (picks : List Int)) 0 0 0 (by omega) (by omega) (by rw [show ((0 : Nat) : Int) = 0 from rfl, ht]) (.inl rfl)
      have g4 : lfp g_law15_MemberRuns_r3 (((picks : List Int), (), trees, row, (i : Int), (), 0, (picks : List Int), (List.length (picks : List Int) : Int), 0, ()), (t, standAt t (Arr.get t.Roster (i : Int)).Who i, ()), ()) = some (.inl (((picks : List Int), (), trees, row, (i : Int), (), (at2 : Int), ()), (t, m, ()), ())) := by
        rw [← g3]
        show lfp _ _ = lfp _ ((_, _, _, _, _, _, _, _, _, _, _), (t, atRow trees t i 0 0, ()), ())
        unfold atRow
        rw [show ((0 : Nat) : Int) = 0 from rfl, ht]
        rfl
      simp only [g_law15_MemberRuns_r2, h1, decide_true, cond_true, Int.natCast_nonneg, Bool.and_self, wrap1 i (by omega), hb', decide_false, cond_false, hst2, Bool.not_true, g4, Option.bind_some, Sum.elim_inl]
      cases hm : m.Out with
      | false => rfl
      | true =>
        obtain ⟨k1, k2⟩ := g2 hm
        have hw2 : IntKind.i64.wrap ((at2 : Int) + 1) = ((at2 + 1 : Nat) : Int) := by rw [i64_in _ (by omega)]; omega
        have p2 : ((at2 + 1 : Nat) : Int) < (trees.length : Int) := by omega
        have p3 : (0 : Int) ≤ ((at2 + 1 : Nat) : Int) := by omega
        have k3 : ¬ Arr.get (lat trees ((at2 + 1 : Nat) : Int)).Roster (i : Int) = Arr.get t.Roster (i : Int) := k2
        simp only [hw2, p2, p3, k3, decide_true, decide_false, Bool.and_self, cond_true, cond_false]
        cases decide (findR (lat trees ((at2 + 1 : Nat) : Int)).Roster m.Who = (i : Int)) <;> rfl]
  rw [lfp_inr (z := .inr ((), (), ())) (by simp [g_law15_MemberRuns_r2])]
  rfl
end Go.Co.N
