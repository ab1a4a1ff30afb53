/-
  Members: the laws of chapter 15.
  Own text, for the claims about coterie. No program in sight.
-/
import Derived.Test.YtghmcodjbkmlnaaN15T
import Derived.Test.YtghmcodjbkmlnaaN17M
namespace Go.Co.N
open Go Go.Co

theorem eq_law15_three : Eqs c_law15_three g_law15_three := fun _ _ _ h => h
theorem eq_law15_lives : Eqs c_law15_lives g_law15_lives := fun _ _ _ h => h
theorem kind_seated {c : Card} (h : goodCard c = true) : kind ⟨c.Who, c.Slot, c.Epoch, c.Leaf, zeroP, false, false, 0⟩ = 2 := by
  have h0 := goodCard_epoch (m := ⟨c.Who, c.Slot, c.Epoch, c.Leaf, zeroP, false, false, 0⟩) h
  have h1 : ¬ (⟨c.Who, c.Slot, c.Epoch, c.Leaf, zeroP, false, false, 0⟩ : Member) = zeroM := fun e => by
    have := congrArg Member.Epoch e
    have : c.Epoch = 0 := this
    simp only at h0
    omega
  unfold kind
  rw [decide_eq_false h1, show goodCard (cardOf ⟨c.Who, c.Slot, c.Epoch, c.Leaf, zeroP, false, false, 0⟩) = true from h]
  show (bif decide (zeroP = zeroP) then (2 : Int) else -1) = 2
  simp
theorem eq_law15_MemberKinds : Eqs c_law15_MemberKinds g_law15_MemberKinds := Eqs.tot fun (m, c, _) _ => by
  change Member at m
  change Card at c
  simp only [g_law15_MemberKinds, decide_true, Bool.not_true, cond_false]
  by_cases h : goodCard c = true
  · have hs : seated c = (⟨c.Who, c.Slot, c.Epoch, c.Leaf, zeroP, false, false, 0⟩, 0) := by unfold seated; rw [h]; rfl
    simp only [hs, kind_seated h, decide_true, Bool.not_true, cond_true, cond_false]
  · have hs : seated c = (zeroM, 30) := by unfold seated; rw [Bool.eq_false_iff.2 h]; rfl
    rw [hs]; simp
/-- What a message may do. -/
theorem apply_cases (m : Member) (r : Rekey) : ((applyM m r).1 = m ∧ (applyM m r).2 ≠ 0) ∨
    (applyM m r = (withB m (max m.Behind r.Epoch), 22) ∧ m.Epoch < r.Epoch) ∨
    (applyM m r = (calm (nextM m r).1, 0) ∧ (nextM m r).2 = 0 ∧ goodRekey r = true ∧ m.Out = false ∧ goodCard (cardOf m) = true ∧ ((kind m = 2 ∧ m.Has = false ∧ m.Path = zeroP ∧ r.Epoch = m.Epoch) ∨ (kind m = 3 ∧ m.Has = true ∧ goodPath m.Path = true ∧ r.Epoch = m.Epoch + 1))) := by
  rcases kind_cases m with h | ⟨h, _⟩ | ⟨h, _⟩ | ⟨h, ho, hg, hc, hh, hp⟩ | ⟨h, ho, hg, hc, hh, hp⟩
  · left; simp [applyM, h]
  · left; simp [applyM, h]
  · left; simp [applyM, h]
  all_goals
    cases hr : goodRekey r with
    | false => left; simp [applyM, h, hr]
    | true =>
      by_cases h1 : r.Epoch < m.Epoch
      · left; simp [applyM, h, hr, h1]
      by_cases h2 : m.Epoch + 1 < r.Epoch
      · right; left
        have e1 : ¬ r.Epoch = m.Epoch := by omega
        refine ⟨?_, by omega⟩
        simp [applyM, h, hr, h1, h2, e1, withB]
      by_cases h3 : r.Epoch = m.Epoch
      · have e1 : ¬ m.Epoch + 1 < m.Epoch := by omega
        have e2 : ¬ m.Epoch < m.Epoch := by omega
        first
          | (by_cases h4 : (nextM m r).2 = 0
             · right; right
               exact ⟨by simp [applyM, h, hr, h3, h4, e1, e2], h4, rfl, ho, hg, .inl ⟨h, hh, hp, h3⟩⟩
             · left; simp [applyM, h, hr, h3, h4, e1, e2])
          | (left; simp [applyM, h, hr, h3, e2])
      · have e1 : m.Epoch < r.Epoch := by omega
        have e3 : r.Epoch = m.Epoch + 1 := by omega
        first
          | (right; left
             refine ⟨?_, by omega⟩
             simp [applyM, h, hr, h1, h2, h3, e1, withB]
             done)
          | (by_cases h4 : (nextM m r).2 = 0
             · right; right
               exact ⟨by simp [applyM, h, hr, h1, h2, h3, h4], h4, rfl, ho, hg, .inr ⟨h, hh, hp, e3⟩⟩
             · left; simp [applyM, h, hr, h1, h2, h3, h4])
theorem calm_all (m : Member) : (calm m).Who = m.Who ∧ (calm m).Slot = m.Slot ∧ (calm m).Epoch = m.Epoch ∧ (calm m).Leaf = m.Leaf ∧ (calm m).Path = m.Path ∧ (calm m).Has = m.Has ∧ (calm m).Out = m.Out := by
  rw [calm_eq]; split <;> simp [withB]
/-- What a message did that is due. -/
theorem next_cases {m : Member} {r : Rekey} (h : (nextM m r).2 = 0) : (r.Epoch = m.Epoch ∧ nextM m r = enterM m r ∧ (nextM m r).1.Has = true ∧ (nextM m r).1.Epoch = m.Epoch) ∨
    (r.Epoch ≠ m.Epoch ∧ nextM m r = (outM m.Who r.Epoch, 0)) ∨
    (r.Epoch ≠ m.Epoch ∧ nextM m r = followM m r ∧ (ahead m.Leaf 1).2 = 0 ∧ (nextM m r).1.Epoch = r.Epoch ∧ (nextM m r).1.Leaf = (ahead m.Leaf 1).1 ∧ (nextM m r).1.Who = m.Who ∧ (nextM m r).1.Slot = m.Slot ∧ (nextM m r).1.Has = m.Has ∧ (nextM m r).1.Out = m.Out) := by
  by_cases he : r.Epoch = m.Epoch
  · left
    cases hj : r.Joins.any (fun s => decide ((⟨m.Who, m.Slot⟩ : Co.Seat) = s)) with
    | false =>
      have : nextM m r = (m, 22) := by unfold nextM; rw [decide_eq_true he, hj]; rfl
      rw [this] at h; simp at h
    | true =>
      have hn : nextM m r = enterM m r := by unfold nextM; rw [decide_eq_true he, hj]; rfl
      rw [hn] at h ⊢
      have h2 : (upP (enterStep m r) m.Slot 3 0 m.Path (leaf m.Slot) m.Leaf).2 = 0 := h
      refine ⟨he, rfl, ?_, rfl⟩
      show (bif decide ((upP (enterStep m r) m.Slot 3 0 m.Path (leaf m.Slot) m.Leaf).2 = 0) then true else m.Has) = true
      rw [decide_eq_true h2]; rfl
  · right
    cases hl : r.Leaves.any (fun s => decide (s.Who = m.Who)) with
    | true =>
      left
      refine ⟨he, ?_⟩
      unfold nextM; rw [decide_eq_false he, hl]; rfl
    | false =>
      right
      have hn : nextM m r = followM m r := by unfold nextM; rw [decide_eq_false he, hl]; rfl
      rw [hn] at h ⊢
      by_cases ha : (ahead m.Leaf 1).2 = 0
      · have hf : followM m r = ({ m with Leaf := (ahead m.Leaf 1).1, Epoch := r.Epoch, Path := (upP (followStep m r) m.Slot 3 0 m.Path (leaf m.Slot) (ahead m.Leaf 1).1).1 }, (upP (followStep m r) m.Slot 3 0 m.Path (leaf m.Slot) (ahead m.Leaf 1).1).2) := by
          unfold followM; rw [decide_eq_true ha]; rfl
        rw [hf]
        exact ⟨he, rfl, ha, rfl, rfl, rfl, rfl, rfl, rfl⟩
      · have hf : followM m r = (m, (ahead m.Leaf 1).2) := by
          unfold followM; rw [decide_eq_false ha]; rfl
        rw [hf] at h; exact absurd h ha
theorem ahead_0 {k : Key} {n : Int} (h : (ahead k n).2 = 0) : (ahead k n).1 = ⟨k.Base, k.Step + n⟩ ∧ good k = true ∧ 0 ≤ n ∧ k.Step + n ≤ 255 := by
  unfold ahead at h ⊢
  split at h
  · rename_i hg
    split at h
    · rename_i h2; exact ⟨by rw [if_pos hg, if_pos h2], hg, h2.1, h2.2⟩
    · simp at h
  · simp at h
theorem eq_law15_MemberKeeps : Eqs c_law15_MemberKeeps g_law15_MemberKeeps := Eqs.tot fun (m, r, _) _ => by
  change Member at m
  change Rekey at r
  simp only [g_law15_MemberKeeps]
  rcases apply_cases m r with ⟨h1, h2⟩ | ⟨h1, h2⟩ | ⟨h1, h2, _, ho, hg, hk⟩
  · rw [h1]
    simp only [h2, decide_false, cond_false, decide_true]
    cases decide ((applyM m r).2 = 22) <;> simp
  · rw [h1]
    simp only [withB, show ¬ (22 : Int) = 0 by omega, decide_false, decide_true, cond_false, cond_true, Bool.not_true]
    by_cases hb : max m.Behind r.Epoch = m.Behind
    · simp [hb]
    · have e1 : max m.Behind r.Epoch = r.Epoch := by omega
      have e2 : m.Behind < r.Epoch := by omega
      simp [hb, e1, e2, h2]
  · rw [h1]
    have hne : ¬ calm (nextM m r).1 = m := fun e => by
      obtain ⟨_, _, c3, _, _, c6, _⟩ := calm_all (nextM m r).1
      rw [e] at c3 c6
      rcases next_cases h2 with ⟨a, _, b, _⟩ | ⟨a, b⟩ | ⟨a, _, _, b, _⟩
      · rcases hk with ⟨_, k2, _⟩ | ⟨_, _, _, k4⟩
        · rw [b, k2] at c6; cases c6
        · omega
      · rw [b] at c3
        have : m.Epoch = r.Epoch := c3
        exact a this.symm
      · rw [b] at c3; exact a c3.symm
    simp only [decide_true, cond_true, hne, decide_false, Bool.not_false]
theorem eq_law15_MemberOneWay : Eqs c_law15_MemberOneWay g_law15_MemberOneWay := Eqs.tot fun (m, r, _) _ => by
  change Member at m
  change Rekey at r
  simp only [g_law15_MemberOneWay]
  rcases apply_cases m r with ⟨h1, h2⟩ | ⟨h1, h2⟩ | ⟨h1, h2, _, ho, hg, hk⟩
  · simp [h2]
  · rw [h1]; simp
  · rw [h1]
    obtain ⟨c1, c2, c3, c4, c5, c6, c7⟩ := calm_all (nextM m r).1
    simp only [c1, c2, c3, c4, c6, c7]
    rcases next_cases h2 with ⟨a, _, b, hb⟩ | ⟨a, b⟩ | ⟨a, _, hah, b1, b2, b3, b4, b5, b6⟩
    · simp [hb]
    · rw [b]
      have : (outM m.Who r.Epoch).Out = true := rfl
      simp [this]
    · obtain ⟨g1, g2, g3, g4⟩ := ahead_0 hah
      have hgk := good_iff.1 g2
      have hge := goodCard_epoch hg
      rw [b1, b2, b3, b4, b5, b6, g1, ho]
      rcases hk with ⟨_, _, _, k4⟩ | ⟨_, k2, _, k4⟩
      · exact absurd k4 a
      · have e1 : IntKind.wrap IntKind.i64 (m.Epoch + 1) = m.Epoch + 1 := i64_in _ (by omega)
        have e2 : IntKind.wrap IntKind.i64 (m.Leaf.Step + 1) = m.Leaf.Step + 1 := i64_in _ (by omega)
        have e3 : gives ⟨m.Leaf.Base, m.Leaf.Step + 1⟩ m.Leaf = false := by
          refine Bool.eq_false_iff.2 fun hh => ?_
          have := (gives_iff.1 hh).2.2.2
          simp only at this; omega
        simp [e1, e2, e3, k2, k4]
/-! ### In step -/
theorem stand_on {t : Tree} (hg : goodTree t = true) {s : Nat} (hs : s < 64) (hon : isOn t.Roster s = true) : stand t (ent t.Roster s).Who = (standAt t (ent t.Roster s).Who s, 0) := by
  have hf := findR_self (goodTree_iff.1 hg).2.2.2.2.2.1 hs hon
  rw [stand_ok hg (by rw [hf]; omega), hf]
theorem kind_out {w e : Int} (h1 : 0 ≤ w ∧ w ≤ 255) (h2 : 1 ≤ e ∧ e ≤ 200) : kind (outM w e) = 1 := by
  have h0 : ¬ outM w e = zeroM := fun h => by
    have := congrArg Member.Out h
    cases this
  unfold kind
  rw [decide_eq_false h0]
  show (bif decide (outM w e = outM w e) && betw w 0 255 && betw e 1 200 then (1 : Int) else -1) = 1
  rw [betw_iff.2 h1, betw_iff.2 h2]; simp
theorem apply_out {w e : Int} (h1 : 0 ≤ w ∧ w ≤ 255) (h2 : 1 ≤ e ∧ e ≤ 200) (r : Rekey) : applyM (outM w e) r = (outM w e, 20) := by
  unfold applyM
  rw [kind_out h1 h2]; rfl
theorem apply_old {n : Tree} (hg : goodTree n = true) {s : Nat} (hs : s < 64) (hon : isOn n.Roster s = true) {x : Int} (hx : x = 0 ∨ n.Epoch + 1 ≤ x ∧ x ≤ 200) {r : Rekey} (hr : goodRekey r = true) (he : r.Epoch ≤ n.Epoch) :
    applyM (withB (standAt n (ent n.Roster s).Who s) x) r = (withB (standAt n (ent n.Roster s).Who s) x, 21) := by
  have hme : (withB (standAt n (ent n.Roster s).Who s) x).Epoch = n.Epoch := rfl
  unfold applyM
  rw [kind_withB hg hs hon hx, hr, hme]
  by_cases h : r.Epoch < n.Epoch
  · rw [decide_eq_true h]; rfl
  · have : r.Epoch = n.Epoch := by omega
    rw [decide_eq_false h, decide_eq_true this]; rfl
/-- A seat that is taken behind a step: who sits there stayed, or joined. -/
theorem nx_sits {t : Tree} {b : Batch} (h : (nextT t b).e = 0) {k : Nat} (hk : k < 64) (hon : isOn (nextT t b).t.Roster k = true) :
    (isOn t.Roster k = true ∧ ent (nextT t b).t.Roster k = ent t.Roster k ∧ (ent t.Roster k).Who ∉ b.Leaves) ∨
    ((⟨(ent (nextT t b).t.Roster k).Who, k⟩ : Co.Seat) ∈ (nextT t b).joined ∧ (ent (nextT t b).t.Roster k).Who ∈ b.Joins) := by
  rcases nx_seat h k hk with ⟨x, hx, hxk⟩ | ⟨_, ⟨_, _, hz⟩ | ⟨hno, he⟩⟩
  · right
    obtain ⟨i, s, a1, a2, hs, a3, a4, _⟩ := nx_joined_at h hx
    have e : s = k := by omega
    subst e
    rw [a4]
    refine ⟨?_, List.mem_of_getElem? a1⟩
    simp only
    rw [show (⟨x.Who, (s : Int)⟩ : Co.Seat) = x by rw [← a3]]
    exact hx
  · unfold isOn at hon; rw [hz] at hon; simp at hon
  · left
    have hont : isOn t.Roster k = true := by unfold isOn at hon ⊢; rwa [he] at hon
    exact ⟨hont, he, fun hl => hno ⟨hont, hl⟩⟩
theorem instep_1 {t : Tree} {b : Batch} (h : (nextT t b).e = 0) : lfp g_law15_MemberInStep_r1 (((), (), (), (msgOf t b).Leaves, ((msgOf t b).Leaves.length : Int), 0, ()), (t, (nextT t b).t, msgOf t b, ()), ()) = some (.inr (((), (), (), ()), (t, (nextT t b).t, msgOf t b, ()), ())) := by
  obtain ⟨hg, _, _, _, _, _⟩ := nextT_ok h
  have hep := nx_epoch h
  have hlen := nextT_joined h
  have hl : (msgOf t b).Leaves.length ≤ 64 := by show (nextT t b).left.length ≤ 64; omega
  rw [lfp_run' (fun i => (((), (), (), (msgOf t b).Leaves, ((msgOf t b).Leaves.length : Int), (i : Int), ()), (t, (nextT t b).t, msgOf t b, ()), ())) (msgOf t b).Leaves.length (by rfl) fun i hi => by
    have h1 : (i : Int) < ((msgOf t b).Leaves.length : Int) := by omega
    have hx : lat (msgOf t b).Leaves (i : Int) ∈ (nextT t b).left := by rw [lat_nat _ i hi]; exact List.getElem_mem hi
    obtain ⟨hw, s, hs, hsl, hon, hwho⟩ := left_at h hx
    have hgE := goodE_iff.1 (roster_on (goodTree_iff.1 hg).2.2.2.2.2.1 hs hon).1
    have hst := stand_on hg hs hon
    have hap := apply_left h hs hon (by rw [hwho]; exact hw) (x := 0) (.inl rfl)
    have hap2 : applyM (stand t (lat (msgOf t b).Leaves (i : Int)).Who).1 (msgOf t b) = (outM (lat (msgOf t b).Leaves (i : Int)).Who (nextT t b).t.Epoch, 0) := by
      rw [← hwho, hst]; exact hap
    have hap3 : applyM (outM (lat (msgOf t b).Leaves (i : Int)).Who (nextT t b).t.Epoch) (msgOf t b) = (outM (lat (msgOf t b).Leaves (i : Int)).Who (nextT t b).t.Epoch, 20) := apply_out (by rw [← hwho]; omega) (by omega) _
    simp only [g_law15_MemberInStep_r1, h1, decide_true, cond_true, Int.natCast_nonneg, Bool.and_self, hap2, hap3, Bool.not_true, cond_false, wrap1' hi (by omega)]
    rw [show (Member.mk (lat (msgOf t b).Leaves (i : Int)).Who 0 (nextT t b).t.Epoch (St.zero St.key) (Vector.replicate 3 (St.zero St.key)) false true 0) = outM (lat (msgOf t b).Leaves (i : Int)).Who (nextT t b).t.Epoch from rfl]
    simp]
  exact lfp_inr (by simp [g_law15_MemberInStep_r1])
theorem seated_card {n : Tree} (hg : goodTree n = true) {s : Nat} (hs : s < 64) (hon : isOn n.Roster s = true) : seated (card n (ent n.Roster s).Who).1 = (bareOf (standAt n (ent n.Roster s).Who s), 0) := by
  unfold card
  rw [stand_on hg hs hon]
  unfold seated
  rw [stand_card hg hs hon]; rfl
theorem instep_2 {t : Tree} {b : Batch} (h : (nextT t b).e = 0) : lfp g_law15_MemberInStep_r2 (((), (), (), 0, ()), (t, (nextT t b).t, msgOf t b, ()), ()) = some (.inr ((), (), ())) := by
  obtain ⟨hg, _, _, _, _, _⟩ := nextT_ok h
  have hgn := nx_good h
  have hr := goodRekey_msg h
  rw [lfp_run' (fun i => (((), (), (), (i : Int), ()), (t, (nextT t b).t, msgOf t b, ()), ())) 64 (by rfl) fun i hi => by
    have h1 : (i : Int) < 64 := by omega
    by_cases hb : (ent (nextT t b).t.Roster i).Base = 0
    · simp only [g_law15_MemberInStep_r2, h1, decide_true, cond_true, Int.natCast_nonneg, Bool.and_self, wrap1 i (by omega)]
      rw [show (Arr.get (nextT t b).t.Roster (i : Int)).Base = 0 from hb]; rfl
    · have hon : isOn (nextT t b).t.Roster i = true := isOn_iff.2 hb
      have hsn := stand_on hgn hi hon
      have hold := apply_old hgn hi hon (x := 0) (.inl rfl) hr (Int.le_refl _)
      have hold2 : applyM (standAt (nextT t b).t (ent (nextT t b).t.Roster i).Who i) (msgOf t b) = (standAt (nextT t b).t (ent (nextT t b).t.Roster i).Who i, 21) := hold
      have hb' : ¬ (Arr.get (nextT t b).t.Roster (i : Int)).Base = 0 := hb
      simp only [g_law15_MemberInStep_r2, h1, decide_true, cond_true, Int.natCast_nonneg, Bool.and_self, wrap1 i (by omega), hb', decide_false, cond_false]
      rcases nx_sits h hi hon with ⟨hont, he, hno⟩ | ⟨hj, hjb⟩
      · have hst := stand_on hg hi hont
        have hap := apply_stays h hi hont he hno (x := 0) (.inl rfl)
        have hep := nx_epoch h
        rw [if_pos (by omega)] at hap
        have hap2 : applyM (standAt t (ent t.Roster i).Who i) (msgOf t b) = (standAt (nextT t b).t (ent t.Roster i).Who i, 0) := hap
        rw [← he] at hst hap2
        simp only [hst, hsn, hap2, hold2, decide_true, Bool.not_true, cond_false]
      · have hns : ¬ (stand t (ent (nextT t b).t.Roster i).Who).2 = 0 := fun hz => by
          obtain ⟨s, hs, _, hon2, hw2, _⟩ := stand_is hz
          exact ((nx_joins h).2 _ hjb).2.2.2 s hs hon2 hw2
        have hap := apply_joins h hi hj
        have hse := seated_card hgn hi hon
        simp only [hns, decide_false, Bool.not_false, cond_true, hse, hap, hsn, hold2, decide_true, Bool.not_true, cond_false]]
  exact lfp_inr (by simp [g_law15_MemberInStep_r2])
theorem eq_law15_MemberInStep : Eqs c_law15_MemberInStep g_law15_MemberInStep := Eqs.tot fun (t, b, _) _ => by
  change Tree at t
  change Batch at b
  simp only [g_law15_MemberInStep, nextR_e]
  by_cases h : (nextT t b).e = 0
  case neg => simp [h]
  have h1 := instep_1 h
  have h2 := instep_2 h
  simp only [h, decide_true, Bool.not_true, cond_false, nextR_is h, h1, h2, Option.bind_some, Sum.elim_inr]
end Go.Co.N
