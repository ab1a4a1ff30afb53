/-
  Trees: the functions answer what they are to answer.
  Own text, for the claims about coterie. No program in sight.
-/
import Derived.Test.YtghmcodjbkmlnaaN11Q
namespace Go.Co.N
open Go Go.Co

/-! ### Right rosters, right trees -/
theorem isOn_iff {r : Roster} {s : Nat} : isOn r s = true ↔ (ent r s).Base ≠ 0 := by simp [isOn]
theorem roster_on {r : Roster} (h : goodRoster r = true) {s : Nat} (hs : s < 64) (hon : isOn r s = true) : goodE (ent r s) = true ∧ ∀ k, k < s → isOn r k = true → (ent r k).Who ≠ (ent r s).Who ∧ (ent r k).Base ≠ (ent r s).Base := by
  have hz : ¬ ent r s = zeroE := fun h => isOn_iff.1 hon (by rw [h])
  obtain ⟨h1, h2⟩ := (entOk_iff hz).1 (allN_iff.1 h s hs)
  exact ⟨h1, fun k hk hk2 => (h2 k hk).resolve_left (isOn_iff.1 hk2)⟩
theorem roster_off {r : Roster} (h : goodRoster r = true) {s : Nat} (hs : s < 64) (hon : ¬ isOn r s = true) : ent r s = zeroE :=
  (entOk_base (allN_iff.1 h s hs)).1 (Classical.not_not.1 fun hb => hon (isOn_iff.2 hb))
theorem roster_who {r : Roster} (h : goodRoster r = true) {s k : Nat} (hs : s < 64) (hk : k < 64) (h1 : isOn r s = true) (h2 : isOn r k = true) (he : (ent r s).Who = (ent r k).Who) : s = k := by
  rcases Nat.lt_trichotomy s k with hl | hl | hl
  · exact absurd he ((roster_on h hk h2).2 s hl h1).1
  · exact hl
  · exact absurd he.symm ((roster_on h hs h1).2 k hl h2).1
theorem roster_base {r : Roster} (h : goodRoster r = true) {s k : Nat} (hs : s < 64) (hk : k < 64) (h1 : isOn r s = true) (h2 : isOn r k = true) (he : (ent r s).Base = (ent r k).Base) : s = k := by
  rcases Nat.lt_trichotomy s k with hl | hl | hl
  · exact absurd he ((roster_on h hk h2).2 s hl h1).2
  · exact hl
  · exact absurd he.symm ((roster_on h hs h1).2 k hl h2).2
theorem findR_self {r : Roster} (h : goodRoster r = true) {s : Nat} (hs : s < 64) (hon : isOn r s = true) : findR r (ent r s).Who = s := by
  by_cases hp : 0 ≤ findR r (ent r s).Who
  · obtain ⟨k, hk, he, h1, h2, _⟩ := findR_some hp
    rw [he, roster_who h hk hs h1 hon h2]
  · exact absurd rfl ((findR_none hp).2 s hs hon)
theorem leafAt_on {t : Tree} (h : goodTree t = true) {s : Nat} (hs : s < 64) (hon : isOn t.Roster s = true) : leafAt (ent t.Roster s) t.Epoch = (⟨(ent t.Roster s).Base, t.Epoch - (ent t.Roster s).Since⟩, 0) := by
  obtain ⟨h1, h2, _, _, _, h6, _, h8⟩ := goodTree_iff.1 h
  have hg := goodE_iff.1 (roster_on h6 hs hon).1
  have h9 := h8 s hs
  unfold leafAt
  rw [if_neg (by omega), if_neg (by omega), if_neg (by omega), if_neg (by omega)]
theorem leafAt_off {t : Tree} (h : goodTree t = true) {s : Nat} (hs : s < 64) (hon : ¬ isOn t.Roster s = true) : leafAt (ent t.Roster s) t.Epoch = (⟨0, 0⟩, 16) := by
  rw [roster_off (goodTree_iff.1 h).2.2.2.2.2.1 hs hon]; rfl
theorem chkT_0 {t : Tree} : chkT t = 0 ↔ goodTree t = true := by unfold chkT; cases goodTree t <;> simp
theorem chkR_0 {r : Roster} : chkR r = 0 ↔ goodRoster r = true := by unfold chkR; cases goodRoster r <;> simp
theorem ent_in (r : Roster) {v : Int} (h0 : 0 ≤ v) : ent r v = ent r v.toNat := by rw [ent, ent, Int.toNat_of_nonneg h0]

/-! ### The tree's check -/
def okV (t : Tree) (v : Nat) : Bool := decide (bas t.Keys v < t.Fresh) && decide (stp t.Keys v ≤ t.Epoch)
def okS (t : Tree) (s : Nat) : Bool := decide ((ent t.Roster s).Base < t.Fresh) && decide ((ent t.Roster s).Since ≤ t.Epoch) && allN 21 fun v => !decide (bas t.Keys v = (ent t.Roster s).Base)
theorem goodTree_eq (t : Tree) : goodTree t = (decide (0 ≤ t.Epoch) && decide (t.Epoch ≤ 200) && decide (22 ≤ t.Fresh) && decide (t.Fresh ≤ 32768) && goodKeys t.Keys && goodRoster t.Roster && allN 21 (okV t) && allN 64 (okS t)) := rfl
theorem chkT_bad {t : Tree} (h : ¬ goodTree t = true) : chkT t = 31 := by unfold chkT; rw [Bool.eq_false_iff.2 h]; rfl
theorem eq_keytree_Check : Eqs c_keytree_Check g_keytree_Check := Eqs.tot fun (t, _) _ => by
  change Tree at t
  simp only [g_keytree_Check]
  by_cases p1 : t.Epoch < 0
  · rw [chkT_bad fun h => by have := (goodTree_iff.1 h).1; omega]; simp [p1]
  by_cases p2 : 200 < t.Epoch
  · rw [chkT_bad fun h => by have := (goodTree_iff.1 h).2.1; omega]; simp [p1, p2]
  by_cases p3 : t.Fresh ≤ 21
  · rw [chkT_bad fun h => by have := (goodTree_iff.1 h).2.2.1; omega]; simp [p1, p2, p3]
  by_cases p4 : 32768 < t.Fresh
  · rw [chkT_bad fun h => by have := (goodTree_iff.1 h).2.2.2.1; omega]; simp [p1, p2, p3, p4]
  by_cases p5 : goodKeys t.Keys = true
  case neg => rw [chkT_bad fun h => p5 (goodTree_iff.1 h).2.2.2.2.1]; simp [p1, p2, p3, p4, chk_0, p5]
  by_cases p6 : goodRoster t.Roster = true
  case neg => rw [chkT_bad fun h => p6 (goodTree_iff.1 h).2.2.2.2.2.1]; simp [p1, p2, p3, p4, chk_0, p5, chkR_0, p6]
  have hg : chkT t = bif allN 21 (okV t) && allN 64 (okS t) then 0 else 31 := by
    unfold chkT
    rw [goodTree_eq, decide_eq_true (show 0 ≤ t.Epoch by omega), decide_eq_true (show t.Epoch ≤ 200 by omega), decide_eq_true (show 22 ≤ t.Fresh by omega), decide_eq_true (show t.Fresh ≤ 32768 by omega), p5, p6]; rfl
  rw [hg]
  simp only [p1, p2, p3, p4, chk_0, p5, chkR_0, p6, decide_false, decide_true, Bool.not_true, cond_false]
  rw [lfp_all' (fun i => (((), (), t.Keys, (i : Int), ()), (t, ()), cmap (fun j => bas t.Keys j) i, ())) 21 (okV t) (.inl ((31, ()), (), ())) (.inr (((), (), ()), (t, ()), cmap (fun j => bas t.Keys j) 21, ())) (by rfl)
    (fun i hi hok => by
      have h1 : (i : Int) < 21 := by omega
      have hc := cmap_succ (fun j => bas t.Keys j) i (by omega)
      have hok : (Arr.get t.Keys (i : Int)).Base < t.Fresh ∧ (Arr.get t.Keys (i : Int)).Step ≤ t.Epoch := by simpa [okV] using hok
      have q1 : ¬ t.Fresh ≤ (Arr.get t.Keys (i : Int)).Base := by omega
      have q2 : ¬ t.Epoch < (Arr.get t.Keys (i : Int)).Step := by omega
      simp only [bas] at hc ⊢
      simp only [g_keytree_Check_r1, h1, decide_true, cond_true, Int.natCast_nonneg, Bool.and_self, q1, q2, decide_false, cond_false, hc, wrap1 i (by omega)])
    (fun i hi hok => by
      have h1 : (i : Int) < 21 := by omega
      simp only [g_keytree_Check_r1, h1, decide_true, cond_true, Int.natCast_nonneg, Bool.and_self]
      by_cases q1 : t.Fresh ≤ (Arr.get t.Keys (i : Int)).Base
      · simp [q1]
      · have q2 : t.Epoch < (Arr.get t.Keys (i : Int)).Step := by
          have q3 : (Arr.get t.Keys (i : Int)).Base < t.Fresh := by omega
          simp [okV, q3] at hok; exact hok
        simp [q1, q2])
    (by simp [g_keytree_Check_r1])]
  cases h21 : allN 21 (okV t) with
  | false => rfl
  | true =>
    simp only [cond_true, Option.bind_some, Sum.elim_inr, Bool.true_and]
    rw [lfp_all' (fun i => (((), (), t.Roster, (i : Int), ()), (t, ()), cmap (fun j => bas t.Keys j) 21, ())) 64 (okS t) (.inl ((31, ()), (), ())) (.inr ((), (), ())) (by rfl)
      (fun i hi hok => by
        have h1 : (i : Int) < 64 := by omega
        have hok : ((Arr.get t.Roster (i : Int)).Base < t.Fresh ∧ (Arr.get t.Roster (i : Int)).Since ≤ t.Epoch) ∧ ∀ v : Nat, v < 21 → ¬ bas t.Keys (v : Int) = (Arr.get t.Roster (i : Int)).Base := by simpa [okS, allN_iff] using hok
        have hm := (cmap_get (fun j => bas t.Keys j) (Arr.get t.Roster (i : Int)).Base 21).2.2.2 hok.2
        have q1 : ¬ t.Fresh ≤ (Arr.get t.Roster (i : Int)).Base := by omega
        have q2 : ¬ t.Epoch < (Arr.get t.Roster (i : Int)).Since := by omega
        simp only [g_keytree_Check_r2, h1, decide_true, cond_true, Int.natCast_nonneg, Bool.and_self, hm, q1, q2, Int.lt_irrefl, decide_false, cond_false, wrap1 i (by omega)])
      (fun i hi hok => by
        have h1 : (i : Int) < 64 := by omega
        simp only [g_keytree_Check_r2, h1, decide_true, cond_true, Int.natCast_nonneg, Bool.and_self]
        have hm := cmap_get (fun j => bas t.Keys j) (Arr.get t.Roster (i : Int)).Base 21
        by_cases q0 : 0 < (mget (cmap (fun j => bas t.Keys j) 21) (Arr.get t.Roster (i : Int)).Base).getD 0
        · simp [q0]
        by_cases q1 : t.Fresh ≤ (Arr.get t.Roster (i : Int)).Base
        · simp [q0, q1]
        by_cases q2 : t.Epoch < (Arr.get t.Roster (i : Int)).Since
        · simp [q0, q1, q2]
        · exfalso
          have hall := hm.2.2.1 (by omega)
          have : okS t i = true := by
            have e1 : (Arr.get t.Roster (i : Int)).Base < t.Fresh := by omega
            have e2 : (Arr.get t.Roster (i : Int)).Since ≤ t.Epoch := by omega
            have e3 : allN 21 (fun v => !decide (bas t.Keys v = (Arr.get t.Roster (i : Int)).Base)) = true := allN_iff.2 fun v hv => by simpa using hall v hv
            simp only [okS, ent, e1, e2, e3, decide_true, Bool.and_self]
          rw [this] at hok; cases hok)
      (by simp [g_keytree_Check_r2])]
    cases allN 64 (okS t) <;> rfl
theorem eq_ref11_Check : Eqs c_ref11_Check g_ref11_Check := Eqs.tot fun (t, _) _ => by
  change Tree at t
  simp only [g_ref11_Check]
  by_cases p1 : t.Epoch < 0
  · rw [chkT_bad fun h => by have := (goodTree_iff.1 h).1; omega]; simp [p1]
  by_cases p2 : 200 < t.Epoch
  · rw [chkT_bad fun h => by have := (goodTree_iff.1 h).2.1; omega]; simp [p1, p2]
  by_cases p3 : t.Fresh < 22
  · rw [chkT_bad fun h => by have := (goodTree_iff.1 h).2.2.1; omega]; simp [p1, p2, p3]
  by_cases p4 : 32768 < t.Fresh
  · rw [chkT_bad fun h => by have := (goodTree_iff.1 h).2.2.2.1; omega]; simp [p1, p2, p3, p4]
  by_cases p5 : goodKeys t.Keys = true
  case neg => rw [chkT_bad fun h => p5 (goodTree_iff.1 h).2.2.2.2.1]; simp [p1, p2, p3, p4, chk_0, p5]
  by_cases p6 : goodRoster t.Roster = true
  case neg => rw [chkT_bad fun h => p6 (goodTree_iff.1 h).2.2.2.2.2.1]; simp [p1, p2, p3, p4, chk_0, p5, chkR_0, p6]
  have hg : chkT t = bif allN 21 (okV t) && allN 64 (okS t) then 0 else 31 := by
    unfold chkT
    rw [goodTree_eq, decide_eq_true (show 0 ≤ t.Epoch by omega), decide_eq_true (show t.Epoch ≤ 200 by omega), decide_eq_true (show 22 ≤ t.Fresh by omega), decide_eq_true (show t.Fresh ≤ 32768 by omega), p5, p6]; rfl
  rw [hg]
  simp only [p1, p2, p3, p4, chk_0, p5, chkR_0, p6, decide_false, decide_true, Bool.not_true, cond_false]
  rw [lfp_all' (fun i => (((), (i : Int), ()), (t, ()), ())) 21 (okV t) (.inl ((31, ()), (), ())) (.inr (((), ()), (t, ()), ())) (by rfl)
    (fun i hi hok => by
      have h1 : (i : Int) < 21 := by omega
      have hok : (Arr.get t.Keys (i : Int)).Base < t.Fresh ∧ (Arr.get t.Keys (i : Int)).Step ≤ t.Epoch := by simpa [okV] using hok
      have q1 : ¬ t.Fresh ≤ (Arr.get t.Keys (i : Int)).Base := by omega
      have q2 : ¬ t.Epoch < (Arr.get t.Keys (i : Int)).Step := by omega
      simp only [g_ref11_Check_r1, h1, decide_true, cond_true, Int.natCast_nonneg, Bool.and_self, q1, q2, decide_false, cond_false, wrap1 i (by omega)])
    (fun i hi hok => by
      have h1 : (i : Int) < 21 := by omega
      simp only [g_ref11_Check_r1, h1, decide_true, cond_true, Int.natCast_nonneg, Bool.and_self]
      by_cases q1 : t.Fresh ≤ (Arr.get t.Keys (i : Int)).Base
      · simp [q1]
      · have q2 : t.Epoch < (Arr.get t.Keys (i : Int)).Step := by
          have q3 : (Arr.get t.Keys (i : Int)).Base < t.Fresh := by omega
          simp [okV, q3] at hok; exact hok
        simp [q1, q2])
    (by simp [g_ref11_Check_r1])]
  cases h21 : allN 21 (okV t) with
  | false => rfl
  | true =>
    have inner : ∀ s : Nat, s < 64 → lfp g_ref11_Check_r3 (((), (s : Int), 0, ()), (t, ()), ()) = some (bif allN 21 (fun v => !decide (bas t.Keys v = (ent t.Roster s).Base)) then .inr (((), (s : Int), ()), (t, ()), ()) else .inl ((31, ()), (), ())) := fun s hs =>
      lfp_all' (fun i => (((), (s : Int), (i : Int), ()), (t, ()), ())) 21 _ _ _ rfl
        (fun i hi hok => by
          have h1 : (i : Int) < 21 := by omega
          have h2 : (s : Int) < 64 := by omega
          have hok : ¬ (Arr.get t.Keys (i : Int)).Base = (Arr.get t.Roster (s : Int)).Base := by simpa using hok
          simp only [g_ref11_Check_r3, h1, h2, decide_true, cond_true, Int.natCast_nonneg, Bool.and_self, hok, decide_false, cond_false, wrap1 i (by omega)])
        (fun i hi hok => by
          have h1 : (i : Int) < 21 := by omega
          have h2 : (s : Int) < 64 := by omega
          have hok : (Arr.get t.Keys (i : Int)).Base = (Arr.get t.Roster (s : Int)).Base := by simpa using hok
          simp only [g_ref11_Check_r3, h1, h2, decide_true, cond_true, Int.natCast_nonneg, Bool.and_self, hok])
        (by simp [g_ref11_Check_r3])
    simp only [cond_true, Option.bind_some, Sum.elim_inr, Bool.true_and]
    rw [lfp_all' (fun i => (((), (i : Int), ()), (t, ()), ())) 64 (okS t) (.inl ((31, ()), (), ())) (.inr ((), (), ())) (by rfl)
      (fun i hi hok => by
        have h1 : (i : Int) < 64 := by omega
        have hin := inner i hi
        have hok' : ((ent t.Roster (i : Int)).Base < t.Fresh ∧ (ent t.Roster (i : Int)).Since ≤ t.Epoch) ∧ allN 21 (fun v => !decide (bas t.Keys v = (ent t.Roster (i : Int)).Base)) = true := by
          unfold okS at hok; simp only [Bool.and_eq_true, decide_eq_true_eq] at hok; exact hok
        rw [hok'.2] at hin
        have q1 : ¬ t.Fresh ≤ (Arr.get t.Roster (i : Int)).Base := by have := hok'.1.1; simp only [ent] at this; omega
        have q2 : ¬ t.Epoch < (Arr.get t.Roster (i : Int)).Since := by have := hok'.1.2; simp only [ent] at this; omega
        simp only [g_ref11_Check_r2, h1, decide_true, cond_true, Int.natCast_nonneg, Bool.and_self, hin, q1, q2, decide_false, cond_false, Option.bind_some, Sum.elim_inr, wrap1 i (by omega)])
      (fun i hi hok => by
        have h1 : (i : Int) < 64 := by omega
        have hin := inner i hi
        simp only [g_ref11_Check_r2, h1, decide_true, cond_true, Int.natCast_nonneg, Bool.and_self]
        by_cases q1 : t.Fresh ≤ (Arr.get t.Roster (i : Int)).Base
        · simp [q1]
        by_cases q2 : t.Epoch < (Arr.get t.Roster (i : Int)).Since
        · simp [q1, q2]
        · have e1 : (Arr.get t.Roster (i : Int)).Base < t.Fresh := by omega
          have e2 : (Arr.get t.Roster (i : Int)).Since ≤ t.Epoch := by omega
          have e3 : allN 21 (fun v => !decide (bas t.Keys v = (ent t.Roster i).Base)) = false := by
            simp only [okS, ent, e1, e2, decide_true, Bool.true_and] at hok; exact hok
          rw [e3] at hin
          simp only [q1, q2, hin, decide_false, cond_false, Option.bind_some, Sum.elim_inl])
      (by simp [g_ref11_Check_r2])]
    cases allN 64 (okS t) <;> rfl

/-! ### Keys of nodes -/
theorem eq_ref11_Of : Eqs c_ref11_Of g_ref11_Of := Eqs.tot fun (t, v, _) _ => by
  change Tree at t
  change Int at v
  simp only [g_ref11_Of, ofT]
  cases hv : node v with
  | false => simp
  | true =>
    have h := node_iff.1 hv
    by_cases h2 : v < 21
    · simp [h2, h.1]
    · rw [i64_in _ (by omega)]
      have e1 : 0 ≤ v - 21 := by omega
      have e2 : v - 21 < 64 := by omega
      simp only [h2, e1, e2, ent, decide_true, decide_false, Bool.not_true, cond_true, cond_false, Bool.and_self]
theorem eq_ref11_KeyOf : Eqs c_ref11_KeyOf g_ref11_KeyOf := Eqs.tot fun (t, v, _) _ => by
  simp only [g_ref11_KeyOf, keyOf, chkT_0]
  cases goodTree t <;> simp
theorem eq_keytree_KeyOf : Eqs c_keytree_KeyOf g_keytree_KeyOf := Eqs.tot fun (t, v, _) _ => by
  change Tree at t
  change Int at v
  simp only [g_keytree_KeyOf, keyOf, chkT_0]
  cases hg : goodTree t with
  | false => simp [chkT, hg]
  | true =>
    simp only [decide_true, Bool.not_true, cond_false, cond_true, ofT]
    by_cases h : 0 ≤ v ∧ v < 85
    · have hn : node v = true := node_iff.2 h
      by_cases h2 : v < 21
      · have e1 : ¬ 0 ≤ slot v := by unfold slot; rw [if_neg (by omega)]; omega
        have e2 : ¬ level v < 0 := by rcases level_in h.1 h.2 with ⟨_, hl⟩ | ⟨_, _, hl⟩ | ⟨_, _, hl⟩ | ⟨_, hl⟩ <;> omega
        simp [e1, e2, hn, h2, h.1]
      · have e0 : slot v = v - 21 := by unfold slot; rw [if_pos (by omega)]
        have e1 : 0 ≤ v - 21 := by omega
        have e2 : v - 21 < 64 := by omega
        simp only [e0, e1, e2, hn, h2, ent, decide_true, decide_false, cond_true, cond_false, Bool.and_self]
    · have hn : node v = false := Bool.eq_false_iff.2 fun hn => h (node_iff.1 hn)
      have e1 : ¬ 0 ≤ slot v := by unfold slot; rw [if_neg (by omega)]; omega
      have e2 : level v < 0 := by rw [level_out h]; omega
      simp [e1, e2, hn]
theorem eq_keytree_Group : Eqs c_keytree_Group g_keytree_Group := Eqs.tot fun (_, _) _ => rfl
theorem pathAt_in {s : Int} (h0 : 0 ≤ s) (h1 : s < 64) (i : Nat) : 0 ≤ pathAt s i ∧ pathAt s i < 21 := by
  unfold pathAt
  by_cases a : i = 0
  · rw [if_pos a]; omega
  · rw [if_neg a]
    by_cases b : i = 1
    · rw [if_pos b]; omega
    · rw [if_neg b]; omega
theorem pathN_get (s : Int) (i : Nat) (h : i < 3) : Arr.get (pathN s) (i : Int) = pathAt s i := by rw [pathN, get_make _ _ (by omega) (by omega)]; simp
theorem eq_keytree_PathOf : Eqs c_keytree_PathOf g_keytree_PathOf := Eqs.tot fun (t, s, _) _ => by
  change Tree at t
  change Int at s
  simp only [g_keytree_PathOf, pathOf, chkT_0]
  cases hg : goodTree t with
  | false => simp [chkT, hg]
  | true =>
    simp only [decide_true, Bool.not_true, cond_false, cond_true]
    by_cases hl : 0 ≤ leaf s
    · have hs := leaf_pos.1 hl
      simp only [hl, decide_true, Bool.not_true, cond_false, cond_true]
      rw [lfp_run' (fun i => (((), (), (), pathN s, (i : Int), ()), (t, zeroP, fillTo St.key.zero (fun i => Arr.get t.Keys (pathAt s i)) i, ()), ())) 3 (by rw [fill_0]; rfl) fun i hi => by
        have h1 : (i : Int) < 3 := by omega
        have hp := pathAt_in hs.1 hs.2 i
        simp only [g_keytree_PathOf_r1, h1, decide_true, cond_true, Int.natCast_nonneg, Bool.and_self, pathN_get s i hi, hp.1, hp.2, wrap1 i (by omega)]
        rw [fill_put (n := 3) St.key.zero (fun i => Arr.get t.Keys (pathAt s i)) i hi]]
      rw [lfp_inr (z := (((), (), ()), (zeroP, pathK t s, ()), ())) (by simp [g_keytree_PathOf_r1, fill_n, pathK])]
      simp
    · simp [hl]
theorem eq_ref11_PathOf : Eqs c_ref11_PathOf g_ref11_PathOf := Eqs.tot fun (t, s, _) _ => by
  change Tree at t
  change Int at s
  simp only [g_ref11_PathOf, pathOf, chkT_0]
  cases hg : goodTree t with
  | false => simp
  | true =>
    simp only [decide_true, Bool.not_true, cond_false, cond_true]
    by_cases hl : 0 ≤ leaf s
    · have hs := leaf_pos.1 hl
      simp only [hl, decide_true, Bool.not_true, cond_false, cond_true]
      rw [lfp_run' (fun i => (((), (), (), (), (i : Int), ()), (t, zeroP, fillTo St.key.zero (fun i => Arr.get t.Keys (pathAt s i)) i, pathN s, ()), ())) 3 (by rw [fill_0]; rfl) fun i hi => by
        have h1 : (i : Int) < 3 := by omega
        have hp := pathAt_in hs.1 hs.2 i
        simp only [g_ref11_PathOf_r1, h1, decide_true, cond_true, Int.natCast_nonneg, Bool.and_self, pathN_get s i hi, hp.1, hp.2, wrap1 i (by omega)]
        rw [fill_put (n := 3) St.key.zero (fun i => Arr.get t.Keys (pathAt s i)) i hi]]
      rw [lfp_inr (z := (((), (), ()), (zeroP, pathK t s, ()), ())) (by simp [g_ref11_PathOf_r1, fill_n, pathK])]
      simp
    · simp [hl]
theorem get_fill_self {n : Nat} {α : Type} [Inhabited α] (z : α) (g : Nat → α) (i : Nat) (h : i < n) : Arr.get (fillTo z g i : Arr n α) (i : Int) = z := by
  rw [fillTo, get_make _ _ (by omega) (by omega), if_neg (by omega)]
theorem eq_keytree_Start : Eqs c_keytree_Start g_keytree_Start := Eqs.tot fun _ _ => by
  simp only [g_keytree_Start]
  rw [lfp_run' (fun i => (((), (), (i : Int), ()), (St.zero St.tree, ⟨0, 22, fillTo St.key.zero (fun v => ⟨v + 1, 0⟩) i, Vector.replicate 64 St.entry.zero⟩, ()), ())) 21 (by rw [fill_0]; rfl) fun i hi => by
    have h1 : (i : Int) < 21 := by omega
    simp only [g_keytree_Start_r1, h1, decide_true, cond_true, Int.natCast_nonneg, Bool.and_self, wrap1 i (by omega), get_fill_self _ _ i hi]
    rw [← fill_put _ _ _ hi]; rfl]
  rw [lfp_inr (z := (((), (), ()), (St.zero St.tree, startT, ()), ())) (by simp [g_keytree_Start_r1, fill_n, startT])]
  simp
theorem eq_ref11_Start : Eqs c_ref11_Start g_ref11_Start := Eqs.tot fun _ _ => by
  simp only [g_ref11_Start]
  rw [lfp_run' (fun i => (((), (), (i : Int), ()), (St.zero St.tree, ⟨0, 22, fillTo St.key.zero (fun v => ⟨v + 1, 0⟩) i, Vector.replicate 64 St.entry.zero⟩, ()), ())) 21 (by rw [fill_0]; rfl) fun i hi => by
    have h1 : (i : Int) < 21 := by omega
    simp only [g_ref11_Start_r1, h1, decide_true, cond_true, Int.natCast_nonneg, Bool.and_self, wrap1 i (by omega)]
    rw [← fill_put _ _ _ hi]; rfl]
  rw [lfp_inr (z := (((), (), ()), (St.zero St.tree, startT, ()), ())) (by simp [g_ref11_Start_r1, fill_n, startT])]
  simp
theorem eq_ref11_Below : Eqs c_ref11_Below g_ref11_Below := Eqs.tot fun (r, v, _) _ => by
  change Int at v
  simp only [g_ref11_Below]
  rw [lfp_all' (fun i => ((v, (), (i : Int), ()), (r, ()), ())) 64 (fun s => !(isOn r s && below v (leaf s))) (.inl ((true, ()), (), ())) (.inr ((), (), ())) (by rfl)
    (fun i hi hok => by
      have h1 : (i : Int) < 64 := by omega
      simp only [g_ref11_Below_r1, h1, decide_true, cond_true, Int.natCast_nonneg, Bool.and_self, wrap1 i (by omega)]
      by_cases hb : (Arr.get r (i : Int)).Base = 0
      · simp [hb]
      · have : below v (leaf i) = false := by simpa [isOn, ent, hb] using hok
        simp [hb, this])
    (fun i hi hok => by
      have h1 : (i : Int) < 64 := by omega
      have hok : ¬ (Arr.get r (i : Int)).Base = 0 ∧ below v (leaf i) = true := by simpa [isOn, ent] using hok
      simp [g_ref11_Below_r1, h1, hok.1, hok.2])
    (by simp [g_ref11_Below_r1])]
  simp only [Option.bind_some, belowR, anyN]
  cases allN 64 (fun s => !(isOn r s && below v (leaf s))) <;> rfl
theorem eq_ref11_Held : Eqs c_ref11_Held g_ref11_Held := Eqs.tot fun (t, v, _) _ => by
  simp only [g_ref11_Held, held, chkT_0]
  cases goodTree t <;> simp
theorem eq_keytree_Held : Eqs c_keytree_Held g_keytree_Held := Eqs.tot fun (t, v, _) _ => by
  change Tree at t
  change Int at v
  simp only [g_keytree_Held, held, chkT_0]
  cases goodTree t with
  | false => simp
  | true =>
    simp only [decide_true, cond_true, Bool.true_and]
    unfold taken mask
    rw [word_and]
    congr 2
    have e : decide (((word (fun i => isOn t.Roster i && below v (leaf i)) 64 : Nat) : Int) = 0) = decide (word (fun i => isOn t.Roster i && below v (leaf i)) 64 = 0) := by
      congr 1; simp only [eq_iff_iff]; omega
    rw [e]
    unfold belowR
    cases ha : anyN 64 (fun s => isOn t.Roster s && below v (leaf s)) with
    | false => rw [decide_eq_true (word_0.2 (anyN_false.1 ha))]; rfl
    | true =>
      rw [decide_eq_false fun h => by
        obtain ⟨i, hi, hp⟩ := anyN_iff.1 ha
        have := word_0.1 h i hi
        rw [hp] at this; cases this]; rfl
theorem stand_ok {t : Tree} {who : Int} (hg : goodTree t = true) (hf : 0 ≤ findR t.Roster who) : (stand t who) = (standAt t who (findR t.Roster who), 0) := by simp [stand, hg, hf]
theorem eq_ref11_Stand : Eqs c_ref11_Stand g_ref11_Stand := Eqs.tot fun (t, who, _) _ => by
  change Tree at t
  change Int at who
  simp only [g_ref11_Stand, stand, chkT_0]
  cases hg : goodTree t with
  | false => rfl
  | true =>
    simp only [decide_true, Bool.not_true, cond_false, cond_true]
    by_cases hf : 0 ≤ findR t.Roster who
    · have hlt := findR_lt t.Roster who
      have hn : ¬ findR t.Roster who < 0 := by omega
      have hl : 0 ≤ leaf (findR t.Roster who) := leaf_pos.2 ⟨hf, hlt⟩
      simp [hf, hn, hlt, standAt, pathOf, hg, hl, ent]
    · have hn : findR t.Roster who < 0 := by omega
      simp only [hf, hn, decide_true, decide_false, cond_true, cond_false]; rfl
theorem eq_ref11_Card : Eqs c_ref11_Card g_ref11_Card := Eqs.tot fun (_, _, _) _ => rfl
theorem eq_keytree_Card : Eqs c_keytree_Card g_keytree_Card := Eqs.tot fun (t, who, _) _ => by
  change Tree at t
  change Int at who
  simp only [g_keytree_Card, card, stand, chkT_0]
  cases hg : goodTree t with
  | false => simp only [chkT, hg]; rfl
  | true =>
    simp only [decide_true, Bool.not_true, cond_false, cond_true]
    by_cases hf : 0 ≤ findR t.Roster who
    · have hlt := findR_lt t.Roster who
      have hn : ¬ findR t.Roster who < 0 := by omega
      obtain ⟨s, hs, he, hon, _⟩ := findR_some hf
      have hla := leafAt_on hg hs hon
      simp only [ent] at hla
      have hs1 : (s : Int) < 64 := by omega
      have hs2 : ¬ (s : Int) < 0 := by omega
      simp [he, hs1, hs2, hla, standAt, cardOf, ent]
    · have hn : findR t.Roster who < 0 := by omega
      simp only [hf, hn, decide_true, decide_false, cond_true, cond_false]; rfl
theorem eq_keytree_Stand : Eqs c_keytree_Stand g_keytree_Stand := Eqs.tot fun (t, who, _) _ => by
  change Tree at t
  change Int at who
  simp only [g_keytree_Stand]
  by_cases hg : goodTree t = true
  · by_cases hf : 0 ≤ findR t.Roster who
    · have hlt := findR_lt t.Roster who
      have hl : 0 ≤ leaf (findR t.Roster who) := leaf_pos.2 ⟨hf, hlt⟩
      have h1 := stand_ok hg hf
      have h2 : card t who = (cardOf (standAt t who (findR t.Roster who)), 0) := by simp [card, h1]
      have h3 : pathOf t (findR t.Roster who) = (pathK t (findR t.Roster who), 0) := by simp [pathOf, hg, hl]
      simp only [h1, h2, cardOf, standAt, h3, decide_true, Bool.not_true, cond_false]
    · have h1 : stand t who = (zeroM, 16) := by simp [stand, hg, hf]
      have h2 : card t who = (cardOf zeroM, 16) := by simp [card, h1]
      simp only [h1, h2]; rfl
  · have h1 : stand t who = (zeroM, 31) := by simp [stand, hg]
    have h2 : card t who = (cardOf zeroM, 31) := by simp [card, h1]
    simp only [h1, h2]; rfl

/-! ### The laws of chapter 11 -/
theorem eq_law11_lives : Eqs c_law11_lives g_law11_lives := fun _ _ _ h => h
theorem eq_law11_TreeChecks : Eqs c_law11_TreeChecks g_law11_TreeChecks := Eqs.tot fun (t, _) _ => by simp [g_law11_TreeChecks]
theorem eq_law11_TreeKeys : Eqs c_law11_TreeKeys g_law11_TreeKeys := Eqs.tot fun (t, v, s, _) _ => by simp [g_law11_TreeKeys]
theorem eq_law11_TreeStands : Eqs c_law11_TreeStands g_law11_TreeStands := Eqs.tot fun (t, v, s, _) _ => by simp [g_law11_TreeStands]
theorem ofT_inner (t : Tree) {v : Nat} (h : v < 21) : ofT t v = (Arr.get t.Keys (v : Int), 0) := by
  have h1 : node v = true := node_iff.2 (by omega)
  have h2 : (v : Int) < 21 := by omega
  simp [ofT, h1, h2]
theorem ofT_leaf (t : Tree) {s : Nat} (h : s < 64) : ofT t ((21 + s : Nat) : Int) = leafAt (ent t.Roster s) t.Epoch := by
  have h1 : node ((21 + s : Nat) : Int) = true := node_iff.2 (by omega)
  have h2 : ¬ ((21 + s : Nat) : Int) < 21 := by omega
  have h3 : ((21 + s : Nat) : Int) - 21 = (s : Int) := by omega
  simp only [ofT, h1, h2, decide_false, cond_true, cond_false, h3]
/-- A node that has a key: which one, within which bounds. -/
theorem ofT_ok {t : Tree} (hg : goodTree t = true) {v : Nat} (hv : v < 85) (h : (ofT t v).2 = 0) : good (ofT t v).1 = true ∧ (ofT t v).1.Base < t.Fresh ∧ (ofT t v).1.Step ≤ t.Epoch ∧
    ((v < 21 ∧ (ofT t v).1 = Arr.get t.Keys (v : Int)) ∨ (∃ s, v = 21 + s ∧ s < 64 ∧ isOn t.Roster s = true ∧ (ofT t v).1 = ⟨(ent t.Roster s).Base, t.Epoch - (ent t.Roster s).Since⟩)) := by
  obtain ⟨g1, g2, g3, g4, g5, g6, g7, g8⟩ := goodTree_iff.1 hg
  by_cases h2 : v < 21
  · have hk := goodKeys_iff.1 g5 v h2
    have := g7 v h2
    rw [ofT_inner t h2]
    exact ⟨hk.1, this.1, this.2, .inl ⟨h2, rfl⟩⟩
  · obtain ⟨s, rfl⟩ := Nat.exists_eq_add_of_le (show 21 ≤ v by omega)
    have hs : s < 64 := by omega
    rw [ofT_leaf t hs] at h ⊢
    by_cases hon : isOn t.Roster s = true
    · have hl := leafAt_on hg hs hon
      have he := goodE_iff.1 (roster_on g6 hs hon).1
      have := g8 s hs
      rw [hl]
      exact ⟨good_iff.2 ⟨by simp only; omega, by simp only; omega, by simp only; omega, by simp only; omega⟩, this.1, by simp only; omega, .inr ⟨s, rfl, hs, hon, rfl⟩⟩
    · rw [leafAt_off hg hs hon] at h; simp at h
theorem ofT_names {t : Tree} (hg : goodTree t = true) {v w : Nat} (hv : v < 85) (hw : w < v) (h1 : (ofT t v).2 = 0) (h2 : (ofT t w).2 = 0) : (ofT t w).1.Base ≠ (ofT t v).1.Base := by
  obtain ⟨g1, g2, g3, g4, g5, g6, g7, g8⟩ := goodTree_iff.1 hg
  obtain ⟨_, _, _, a⟩ := ofT_ok hg hv h1
  obtain ⟨_, _, _, b⟩ := ofT_ok hg (show w < 85 by omega) h2
  rcases a with ⟨a1, a2⟩ | ⟨s, a1, a2, a3, a4⟩
  · rcases b with ⟨b1, b2⟩ | ⟨k, b1, b2, b3, b4⟩
    · rw [a2, b2]; exact (goodKeys_iff.1 g5 v a1).2.2 w hw
    · omega
  · rcases b with ⟨b1, b2⟩ | ⟨k, b1, b2, b3, b4⟩
    · rw [a4, b2]; exact (g8 s a2).2.2 w b1
    · rw [a4, b4]; exact ((roster_on g6 a2 a3).2 k (by omega) b3).2
theorem keyOf_good {t : Tree} (hg : goodTree t = true) (v : Int) : keyOf t v = ofT t v := by simp [keyOf, hg]
theorem eq_law11_TreeNames : Eqs c_law11_TreeNames g_law11_TreeNames := Eqs.tot fun (t, _) _ => by
  change Tree at t
  simp only [g_law11_TreeNames, chkT_0]
  cases hg : goodTree t with
  | false => simp
  | true =>
    simp only [decide_true, Bool.not_true, cond_false]
    rw [lfp_run' (fun i => (((), (), (i : Int), ()), (t, ()), cmapP (fun v => decide ((ofT t v).2 = 0)) (fun v => (ofT t v).1.Base) i, ())) 85 (by rfl) fun i hi => by
      have h1 : (i : Int) < 85 := by omega
      simp only [g_law11_TreeNames_r1, h1, decide_true, cond_true, keyOf_good hg, wrap1 i (by omega)]
      by_cases h2 : (ofT t i).2 = 0
      · have hp : (decide ((ofT t i).2 = 0)) = true := by simp [h2]
        have c1 := cmapP_succ (fun v => decide ((ofT t v).2 = 0)) (fun v => (ofT t v).1.Base) i (by omega) hp
        have t1 : ¬ 1 < (mget (cmapP (fun v => decide ((ofT t v).2 = 0)) (fun v => (ofT t v).1.Base) (i + 1)) (ofT t i).1.Base).getD 0 := fun h =>
          (cmapP_twice (fun v => decide ((ofT t v).2 = 0)) (fun v => (ofT t v).1.Base) i hp).1 h fun j hj hpj => ofT_names hg hi hj h2 (by simpa using hpj)
        obtain ⟨_, b1, b2, _⟩ := ofT_ok hg hi h2
        have q1 : ¬ t.Fresh ≤ (ofT t i).1.Base := by omega
        have q2 : ¬ t.Epoch < (ofT t i).1.Step := by omega
        simp only [h2, decide_true, Bool.not_true, cond_false]
        rw [c1]
        simp only [t1, q1, q2, decide_false, cond_false]
      · simp [h2, cmapP]]
    rw [lfp_inr (z := .inr ((), (), ())) (by simp [g_law11_TreeNames_r1])]
    simp
theorem below_children : allN 21 (fun v => allN 64 fun s => decide (below v (leaf s) = anyN 4 fun i => below (child v i) (leaf s))) = true := by decide +kernel
theorem below_leaf : allN 64 (fun k => allN 64 fun s => decide (below ((21 + k : Nat) : Int) (leaf s) = decide (k = s))) = true := by decide +kernel
theorem held_inner (t : Tree) {v : Nat} (hv : v < 21) : held t v = anyN 4 fun i => held t (child v i) := by
  have hb : ∀ s : Nat, s < 64 → below v (leaf s) = anyN 4 fun i => below (child v i) (leaf s) := fun s hs => by
    have := allN_iff.1 (allN_iff.1 below_children v hv) s hs
    simpa using this
  apply bool_eq
  unfold held
  simp only [Bool.and_eq_true, belowR, anyN_iff]
  constructor
  · rintro ⟨hg, s, hs, hon, hbl⟩
    rw [hb s hs] at hbl
    obtain ⟨i, hi, h⟩ := anyN_iff.1 hbl
    exact ⟨i, hi, hg, s, hs, hon, h⟩
  · rintro ⟨i, hi, hg, s, hs, hon, h⟩
    exact ⟨hg, s, hs, hon, by rw [hb s hs]; exact anyN_iff.2 ⟨i, hi, h⟩⟩
theorem held_leaf {t : Tree} (hg : goodTree t = true) {k : Nat} (hk : k < 64) : held t ((21 + k : Nat) : Int) = isOn t.Roster k := by
  have hb : ∀ s : Nat, s < 64 → below ((21 + k : Nat) : Int) (leaf s) = decide (k = s) := fun s hs => by
    have := allN_iff.1 (allN_iff.1 below_leaf k hk) s hs
    simpa using this
  apply bool_eq
  unfold held
  simp only [Bool.and_eq_true, belowR, anyN_iff, hg, true_and]
  constructor
  · rintro ⟨s, hs, hon, hbl⟩
    rw [hb s hs] at hbl
    have : k = s := by simpa using hbl
    rw [this]; exact hon
  · intro hon
    exact ⟨k, hk, hon, by rw [hb k hk]; simp⟩
theorem anyN_succ (n : Nat) (p : Nat → Bool) : anyN (n + 1) p = (anyN n p || p n) := by
  simp only [anyN, allN]
  cases allN n (fun i => !p i) <;> cases p n <;> rfl
theorem eq_law11_TreeHeld : Eqs c_law11_TreeHeld g_law11_TreeHeld := Eqs.tot fun (t, _) _ => by
  change Tree at t
  simp only [g_law11_TreeHeld, chkT_0]
  cases hg : goodTree t with
  | false => simp [held, hg]
  | true =>
    simp only [decide_true, Bool.not_true, cond_false]
    have inner : ∀ v : Nat, v < 21 → lfp g_law11_TreeHeld_r2 (((), (v : Int), false, 0, ()), (t, ()), ()) = some (((), (v : Int), held t v, ()), (t, ()), ()) := fun v hv => by
      rw [lfp_run' (fun i => (((), (v : Int), anyN i (fun i => held t (child v i)), (i : Int), ()), (t, ()), ())) 4 (by rfl) fun i hi => by
        have h1 : (i : Int) < 4 := by omega
        simp only [g_law11_TreeHeld_r2, h1, decide_true, cond_true, wrap1 i (by omega), anyN_succ]
        cases anyN i (fun i => held t (child v i)) <;> simp]
      refine lfp_inr ?_
      simp only [g_law11_TreeHeld_r2]
      rw [held_inner t hv]; rfl
    rw [lfp_run' (fun i => (((), (i : Int), ()), (t, ()), ())) 85 (by rfl) fun v hv => by
      have h1 : (v : Int) < 85 := by omega
      simp only [g_law11_TreeHeld_r1, h1, decide_true, cond_true, keyOf_good hg]
      by_cases h2 : v < 21
      · have h2' : (v : Int) < 21 := by omega
        simp only [h2', decide_true, cond_true, inner v h2, Option.bind_some, Bool.not_true, cond_false, wrap1 v (by omega)]
      · have h2' : ¬ (v : Int) < 21 := by omega
        obtain ⟨s, rfl⟩ := Nat.exists_eq_add_of_le (show 21 ≤ v by omega)
        have hs : s < 64 := by omega
        have : held t ((21 + s : Nat) : Int) = decide ((ofT t ((21 + s : Nat) : Int)).2 = 0) := by
          rw [held_leaf hg hs, ofT_leaf t hs]
          by_cases hon : isOn t.Roster s = true
          · rw [leafAt_on hg hs hon, hon]; rfl
          · rw [leafAt_off hg hs hon, Bool.eq_false_iff.2 hon]; rfl
        simp only [h2', decide_false, cond_false, this, decide_true, Bool.not_true, wrap1 (21 + s) (by omega)]]
    rw [lfp_inr (z := .inr ((), (), ())) (by simp [g_law11_TreeHeld_r1])]
    simp
theorem eq_law11_TreePaths : Eqs c_law11_TreePaths g_law11_TreePaths := Eqs.tot fun (t, n, _) _ => by
  change Tree at t
  change Int at n
  simp only [g_law11_TreePaths, chkT_0]
  obtain ⟨hs0, hs1⟩ := tmod_wrap n 64 (by omega) (by omega)
  generalize IntKind.i64.wrap (Int.tmod (IntKind.u64.wrap n) 64) = s at *
  cases hg : goodTree t with
  | false => simp [pathOf, hg]
  | true =>
    have hl : 0 ≤ leaf s := leaf_pos.2 ⟨hs0, hs1⟩
    have hpo : pathOf t s = (pathK t s, 0) := by simp [pathOf, hg, hl]
    simp only [decide_true, Bool.not_true, cond_false, cond_true, hl, hpo]
    have hpk : ∀ i : Nat, i < 3 → Arr.get (pathK t s) (i : Int) = Arr.get t.Keys (pathAt s i) := fun i hi => by rw [pathK, get_make _ _ (by omega) (by omega)]; simp
    have hof : ∀ i : Nat, ofT t (pathAt s i) = (Arr.get t.Keys (pathAt s i), 0) := fun i => by
      obtain ⟨h0, h1⟩ := pathAt_in hs0 hs1 i
      obtain ⟨v, hv⟩ := Int.eq_ofNat_of_zero_le h0
      rw [hv]; exact ofT_inner t (by omega)
    rw [lfp_run' (fun i => (((), s, (), 0, (), (i : Int), ()), (t, pathK t s, pathN s, ()), ())) 3 (by rfl) fun i hi => by
      have h1 : (i : Int) < 3 := by omega
      simp only [g_law11_TreePaths_r1, h1, decide_true, cond_true, Int.natCast_nonneg, Bool.and_self, pathN_get s i hi, keyOf_good hg, hof, hpk i hi, Bool.not_true, cond_false, wrap1 i (by omega)]]
    rw [lfp_inr (z := .inr (((), s, (), 0, ()), (t, pathK t s, ()), ())) (by simp [g_law11_TreePaths_r1])]
    have h2 := hpk 2 (by omega)
    have hp2 : pathAt s 2 = 0 := rfl
    rw [hp2] at h2
    have hof0 := hof 2
    rw [hp2] at hof0
    have h2' : Arr.get (pathK t s) 2 = Arr.get t.Keys 0 := h2
    simp only [Option.bind_some, Sum.elim_inr, keyOf_good hg, hof0, h2', decide_true, Bool.not_true, cond_false, hs0, hs1, Bool.and_self, cond_true]
    obtain ⟨k, rfl⟩ := Int.eq_ofNat_of_zero_le hs0
    have hk : k < 64 := by omega
    have hlk : leaf (k : Int) = ((21 + k : Nat) : Int) := by rw [leaf_in hk]; omega
    rw [hlk, ofT_leaf t hk, held_leaf hg hk]
    by_cases hon : isOn t.Roster k = true
    · have hb : ¬ (Arr.get t.Roster (k : Int)).Base = 0 := isOn_iff.1 hon
      have hf := findR_self (goodTree_iff.1 hg).2.2.2.2.2.1 hk hon
      simp only [ent] at hf
      have hst : stand t (Arr.get t.Roster (k : Int)).Who = (standAt t (Arr.get t.Roster (k : Int)).Who k, 0) := by
        rw [stand_ok hg (by rw [hf]; omega), hf]
      have hla := leafAt_on hg hk hon
      simp only [hb, decide_false, cond_false, card, hst, decide_true, cond_true, hla]
      simp [standAt, cardOf, hla]
    · have hb : (Arr.get t.Roster (k : Int)).Base = 0 := Classical.not_not.1 fun h => hon (isOn_iff.2 h)
      rw [leafAt_off hg hk hon]
      simp [hb, hon]
end Go.Co.N
