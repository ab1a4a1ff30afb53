/-
  The laws of chapter 10.
  Own text, for the claims about coterie. No program in sight.
-/
import Derived.Test.YtghmcodjbkmlnaaN10Q
namespace Go.Co.N
open Go Go.Co

theorem eq_law10_plain : Eqs c_law10_plain g_law10_plain := Eqs.tot fun (s, _) _ => by
  change Int at s
  simp only [g_law10_plain]
  rw [lfp_run' (fun i => ((s, (), (), (i : Int), ()), (zeroK, fillTo St.key.zero (fun v => ⟨v + 1, s⟩) i, ()), ())) 21 (by rw [fill_0]; rfl) fun i hi => by
    have h1 : (i : Int) < 21 := by omega
    simp only [g_law10_plain_r1, h1, decide_true, cond_true, Int.natCast_nonneg, Bool.and_self, wrap1 i (by omega)]
    rw [← fill_put _ _ _ hi]; simp]
  rw [lfp_inr (z := (((), (), ()), (zeroK, plain s, ()), ())) (by simp [g_law10_plain_r1, fill_n, plain])]
  simp
theorem eq_law10_lives : Eqs c_law10_lives g_law10_lives := fun x y _ h => h
theorem turn_ok {k : Keys} {m f : Int} (h : (turn k m f).2.2 = 0) : goodKeys k = true ∧ m < 2097152 ∧ free k f (cntTo m 21) = true ∧ (∀ v : Nat, v < 21 → inB m v = true ∨ stp k v < 255) ∧ turn k m f = (turned k m f, f + cntTo m 21, 0) := by
  unfold turn at h ⊢
  cases h1 : goodKeys k with
  | false => rw [h1] at h; simp at h
  | true =>
    by_cases h2 : m < 2097152
    · cases h3 : free k f (cntTo m 21) with
      | false => rw [h1, h3] at h; simp [h2] at h
      | true =>
        cases h4 : allN 21 (fun v => inB m v || decide (stp k v < 255)) with
        | false => rw [h1, h3, h4] at h; simp [h2] at h
        | true =>
          refine ⟨rfl, h2, rfl, fun v hv => ?_, by simp [h2]⟩
          have := allN_iff.1 h4 v hv
          simpa using this
    · rw [h1] at h; simp [h2] at h
theorem turn_bad {k : Keys} {m f : Int} (h : ¬ (turn k m f).2.2 = 0) : (turn k m f).1 = zeroK ∧ (turn k m f).2.1 = 0 := by
  unfold turn at h ⊢
  cases h1 : goodKeys k <;> cases h2 : decide (m < 2097152) <;> cases h3 : free k f (cntTo m 21) <;> cases h4 : allN 21 (fun v => inB m v || decide (stp k v < 255)) <;> simp [h1, h2, h3, h4] at h ⊢
theorem turned_get (k : Keys) (m f : Int) (v : Nat) (hv : v < 21) : Arr.get (turned k m f) (v : Int) = turnedAt k m f v := by
  rw [turned, get_make _ _ (by omega) (by omega)]; simp
section
variable {k : Keys} {m f : Int} (hk : goodKeys k = true) (hfr : free k f (cntTo m 21) = true) (hst : ∀ v : Nat, v < 21 → inB m v = true ∨ stp k v < 255)
include hfr in
theorem fresh_bounds {v : Nat} (hv : v < 21) (hin : inB m v = true) : f ≤ (turnedAt k m f v).Base ∧ (turnedAt k m f v).Base < f + cntTo m 21 ∧ 1 ≤ f ∧ f + cntTo m 21 ≤ 32768 ∧ (turnedAt k m f v).Step = 0 ∧ ∀ w : Nat, w < 21 → bas k w ≠ (turnedAt k m f v).Base := by
  obtain ⟨h1, h2, h3⟩ := cnt_in hv hin
  rcases free_cnt hfr with h | ⟨h5, h6, h7⟩
  · omega
  · unfold turnedAt
    rw [if_pos hin]
    refine ⟨?_, ?_, h5, ?_, rfl, fun w hw he => h7 w hw ?_⟩
    · simp only; omega
    · simp only; omega
    · omega
    · rw [he]; simp only; omega
theorem kept_at {v : Nat} (hin : ¬ inB m v = true) : turnedAt k m f v = ⟨bas k v, stp k v + 1⟩ := by unfold turnedAt; rw [if_neg hin]
include hk hfr hst in
theorem good_turnedAt {v : Nat} (hv : v < 21) : good (turnedAt k m f v) = true ∧ (turnedAt k m f v).Base < 32768 := by
  by_cases hin : inB m v = true
  · have := fresh_bounds hfr (k := k) hv hin
    exact ⟨good_iff.2 ⟨by omega, by omega, by omega, by omega⟩, by omega⟩
  · have h := goodKeys_iff.1 hk v hv
    have hg := good_iff.1 h.1
    have hs : stp k v < 255 := (hst v hv).resolve_left hin
    rw [kept_at hin]
    exact ⟨good_iff.2 ⟨hg.1, hg.2.1, by simp only [stp]; omega, by simp only [stp] at hs ⊢; omega⟩, h.2.1⟩
include hk hfr in
theorem turned_ne {v w : Nat} (hv : v < 21) (hw : w < v) : (turnedAt k m f w).Base ≠ (turnedAt k m f v).Base := by
  by_cases hin : inB m v = true
  · have hb := fresh_bounds hfr (k := k) hv hin
    by_cases hin2 : inB m w = true
    · have h1 := cnt_in hv hin
      have h2 := (cntTo_mono m (show w + 1 ≤ v by omega)).1
      unfold turnedAt
      rw [if_pos hin, if_pos hin2]
      simp only; omega
    · rw [kept_at hin2]
      exact hb.2.2.2.2.2 w (by omega)
  · rw [kept_at hin]
    by_cases hin2 : inB m w = true
    · have hb := fresh_bounds hfr (k := k) (v := w) (by omega) hin2
      exact fun he => hb.2.2.2.2.2 v hv he.symm
    · rw [kept_at hin2]
      exact (goodKeys_iff.1 hk v hv).2.2 w hw
include hk hfr hst in
theorem goodKeys_turned : goodKeys (turned k m f) = true := goodKeys_iff.2 fun v hv => by
  have h := good_turnedAt hk hfr hst hv
  simp only [bas]
  rw [turned_get _ _ _ _ hv]
  refine ⟨h.1, h.2, fun w hw => ?_⟩
  rw [turned_get _ _ _ _ (by omega)]
  exact turned_ne hk hfr hv hw
end
theorem eq_law10_RatchetTurns : Eqs c_law10_RatchetTurns g_law10_RatchetTurns := Eqs.tot fun (k, m, f, _) _ => by
  change Int at m f
  simp only [g_law10_RatchetTurns, decide_true, Bool.not_true, cond_false, cond_true]
  by_cases h : (turn k m f).2.2 = 0
  · obtain ⟨h1, h2, h3, h4, h5⟩ := turn_ok h
    rw [h5]
    simp [chk_0, goodKeys_turned h1 h3 h4]
  · simp [h]
theorem eq_law10_RatchetOneWay : Eqs c_law10_RatchetOneWay g_law10_RatchetOneWay := Eqs.tot fun (k, m, f, _) hf => by
  change Int at m f
  have hm : 0 ≤ m ∧ m ≤ 4294967295 := fine_u32.1 hf.2.1
  simp only [g_law10_RatchetOneWay]
  by_cases h : (turn k m f).2.2 = 0
  · obtain ⟨hk, h2, hfr, hst, h5⟩ := turn_ok h
    rw [h5]
    simp only [decide_true, Bool.not_true, cond_false]
    have kk := goodKeys_iff.1 hk
    have dist : ∀ v w : Nat, v < 21 → w < 21 → bas k w = bas k v → w = v := fun v w hv hw he => by
      rcases Nat.lt_trichotomy w v with hlt | he' | hlt
      · exact absurd he ((kk v hv).2.2 w hlt)
      · exact he'
      · exact absurd he.symm ((kk w hw).2.2 v hlt)
    have inner : ∀ v : Nat, v < 21 → lfp g_law10_RatchetOneWay_r2 ((m, (), (), (v : Int), 0, ()), (k, turned k m f, ()), ()) = some (.inr ((m, (), (), (v : Int), ()), (k, turned k m f, ()), ())) := fun v hv => by
      rw [lfp_run' (fun i => ((m, (), (), (v : Int), (i : Int), ()), (k, turned k m f, ()), ())) 21 (by rfl) fun w hw => by
        have h1 : (w : Int) < 21 := by omega
        have h2 : (v : Int) < 21 := by omega
        have g1 : gives (turnedAt k m f w) (Arr.get k v) = false := Bool.eq_false_iff.2 fun hg => by
          obtain ⟨_, _, hb, hs⟩ := gives_iff.1 hg
          by_cases hin : inB m w = true
          · exact (fresh_bounds hfr (k := k) hw hin).2.2.2.2.2 v hv hb.symm
          · rw [kept_at hin] at hb hs
            have := dist v w hv hw hb
            subst this
            simp only [stp] at hs; omega
        have g2 : ¬ w = v → gives (Arr.get k w) (turnedAt k m f v) = false := fun hne => Bool.eq_false_iff.2 fun hg => by
          obtain ⟨_, _, hb, _⟩ := gives_iff.1 hg
          by_cases hin : inB m v = true
          · exact (fresh_bounds hfr (k := k) hv hin).2.2.2.2.2 w hw hb
          · rw [kept_at hin] at hb
            exact hne (dist v w hv hw hb)
        simp only [g_law10_RatchetOneWay_r2, h1, decide_true, cond_true, Int.natCast_nonneg, Bool.and_self, h2, turned_get _ _ _ _ hw, turned_get _ _ _ _ hv, g1, cond_false, wrap1 w (by omega)]
        by_cases hwv : w = v
        · subst hwv; simp
        · have : ¬ (w : Int) = v := by omega
          simp [this, g2 hwv]]
      exact lfp_inr (by simp [g_law10_RatchetOneWay_r2])
    rw [lfp_run' (fun i => ((m, (), (), (i : Int), ()), (k, turned k m f, ()), ())) 21 (by rfl) fun v hv => by
      have h1 : (v : Int) < 21 := by omega
      have hg : gives (Arr.get k v) (turnedAt k m f v) = !inB m v := by
        by_cases hin : inB m v = true
        · rw [hin]
          exact Bool.eq_false_iff.2 fun hg => (fresh_bounds hfr (k := k) hv hin).2.2.2.2.2 v hv (gives_iff.1 hg).2.2.1
        · have : gives (Arr.get k v) (turnedAt k m f v) = true := gives_iff.2 ⟨(kk v hv).1, (good_turnedAt hk hfr hst hv).1, by rw [kept_at hin], by rw [kept_at hin]; simp only [stp]; omega⟩
          rw [this]; simp [hin]
      simp only [g_law10_RatchetOneWay_r1, h1, decide_true, cond_true, Int.natCast_nonneg, Bool.and_self, turned_get _ _ _ _ hv, bit_in' m _ hm.1 hm.2 (show 0 ≤ (v : Int) by omega) (show (v : Int) < 32 by omega), hg, inner v hv, Option.bind_some, Sum.elim_inr, wrap1 v (by omega)]
      cases hin : inB m v with
      | true =>
        have := (fresh_bounds hfr (k := k) hv hin).2.2.2.2.1
        simp [this]
      | false => simp]
    rw [lfp_inr (z := .inr ((), (), ())) (by simp [g_law10_RatchetOneWay_r1])]
    simp
  · obtain ⟨h1, h2⟩ := turn_bad h
    rw [show (Vector.replicate 21 (St.zero St.key) : Keys) = zeroK from rfl]
    simp [h, h1, h2]
theorem eq_law10_RatchetOrder : Eqs c_law10_RatchetOrder g_law10_RatchetOrder := Eqs.tot fun (k, m, f, _) hf => by
  change Int at m f
  have hm : 0 ≤ m ∧ m ≤ 4294967295 := fine_u32.1 hf.2.1
  have hff : I64 f := fine_i.1 hf.2.2.1
  simp only [g_law10_RatchetOrder]
  by_cases h : (turn k m f).2.2 = 0
  · obtain ⟨hk, h2, hfr, hst, h5⟩ := turn_ok h
    rw [h5]
    simp only [decide_true, Bool.not_true, cond_false]
    rw [lfp_run' (fun i => ((m, (), f + cntTo m 21, nameAt m f i, 20 - (i : Int), ()), (turned k m f, ()), ())) 21 (by simp [nameAt]) fun i hi => by
      have hw : 20 - (i : Int) = ((20 - i : Nat) : Int) := by omega
      have hr : (decide (0 ≤ ((20 - i : Nat) : Int)) && decide (((20 - i : Nat) : Int) < 21)) = true := inr (by omega) (Int.le_refl _)
      have hw2 : IntKind.i64.wrap (((20 - i : Nat) : Int) - 1) = 20 - ((i + 1 : Nat) : Int) := by rw [i64_in _ (by omega)]; omega
      have hnx := name_next hff hfr hi
      simp only [g_law10_RatchetOrder_r1, hw, hw2, show 0 ≤ ((20 - i : Nat) : Int) by omega, show ((20 - i : Nat) : Int) < 21 by omega, decide_true, Bool.and_self, cond_true, bit_in' m _ hm.1 hm.2 (show 0 ≤ ((20 - i : Nat) : Int) by omega) (show ((20 - i : Nat) : Int) < 32 by omega), turned_get _ _ _ (20 - i) (by omega)]
      cases hin : inB m ((20 - i : Nat) : Int) with
      | true =>
        rw [hin, if_pos rfl] at hnx
        have : turnedAt k m f (20 - i) = ⟨nameAt m f i, 0⟩ := by
          unfold turnedAt; rw [if_pos hin, show 20 - i + 1 = 21 - i by omega]
        simp [this, hnx]
      | false =>
        rw [hin, if_neg (by simp)] at hnx
        simp [hnx]]
    rw [lfp_inr (z := .inr ((f + cntTo m 21, f + cntTo m 21, ()), (), ())) (by simp [g_law10_RatchetOrder_r1, nameAt, cntTo])]
    simp
  · simp [h]
theorem eq_law10_RatchetFollows : Eqs c_law10_RatchetFollows g_law10_RatchetFollows := Eqs.tot fun (k, n, _) _ => by simp [g_law10_RatchetFollows]
theorem eq_law10_RatchetLeaves : Eqs c_law10_RatchetLeaves g_law10_RatchetLeaves := Eqs.tot fun (e, n, _) hf => by
  change Int at n
  have hn : I64 n := fine_i.1 hf.2.1
  simp only [g_law10_RatchetLeaves]
  by_cases h1 : (leafAt e n).2 = 0
  · by_cases h2 : 200 ≤ n
    · simp [h2]
    · have hok : leafAt e n = (⟨e.Base, n - e.Since⟩, 0) ∧ leafAt e (n + 1) = (⟨e.Base, n + 1 - e.Since⟩, 0) ∧ 1 ≤ e.Base ∧ e.Base ≤ 32767 ∧ e.Since ≤ n ∧ n ≤ e.Since + 254 := by
        unfold leafAt at h1 ⊢
        by_cases g0 : e.Base = 0
        · rw [if_pos g0] at h1; simp at h1
        rw [if_neg g0] at h1
        by_cases g1 : e.Base < 1 ∨ 32768 ≤ e.Base ∨ e.Since < 1 ∨ 200 < e.Since
        · rw [if_pos g1] at h1; simp at h1
        rw [if_neg g1] at h1
        by_cases g2 : n < e.Since
        · rw [if_pos g2] at h1; simp at h1
        rw [if_neg g2] at h1
        by_cases g3 : e.Since + 255 < n
        · rw [if_pos g3] at h1; simp at h1
        have g4 : ¬ n + 1 < e.Since := by omega
        have g5 : ¬ e.Since + 255 < n + 1 := by omega
        refine ⟨by rw [if_neg g0, if_neg g1, if_neg g2, if_neg g3], by rw [if_neg g0, if_neg g1, if_neg g4, if_neg g5], by omega, by omega, by omega, by omega⟩
      obtain ⟨q1, q2, q3, q4, q5, q6⟩ := hok
      rw [i64_in _ (by omega), q2, q1]
      have ga : good ⟨e.Base, n - e.Since⟩ = true := good_iff.2 ⟨q3, by simp only; omega, by simp only; omega, by simp only; omega⟩
      have gb : good ⟨e.Base, n + 1 - e.Since⟩ = true := good_iff.2 ⟨q3, by simp only; omega, by simp only; omega, by simp only; omega⟩
      have k1 : gives ⟨e.Base, n - e.Since⟩ ⟨e.Base, n + 1 - e.Since⟩ = true := by simp [gives, ga, gb]; omega
      have k2 : gives ⟨e.Base, n + 1 - e.Since⟩ ⟨e.Base, n - e.Since⟩ = false := by simp [gives, ga, gb]; omega
      simp [k1, k2, h2]
  · simp [h1]

/-! ### Turns that replace nothing -/
def adv (k : Keys) (j : Int) : Keys := Arr.make fun v => ⟨bas k v, stp k v + j⟩
theorem adv_get (k : Keys) (j : Int) (v : Nat) (hv : v < 21) : Arr.get (adv k j) (v : Int) = ⟨bas k v, stp k v + j⟩ := by
  rw [adv, get_make _ _ (by omega) (by omega)]; simp
theorem inB_0 (v : Int) : inB 0 v = false := by simp [inB]
theorem cntTo_0 : ∀ n, cntTo 0 n = 0
  | 0 => rfl
  | n + 1 => by simp [cntTo, inB_0, cntTo_0 n]
theorem turned_adv (k : Keys) (j : Nat) (f : Int) : turned (adv k j) 0 f = adv k ((j + 1 : Nat) : Int) := arr_ext fun i h0 h1 => by
  obtain ⟨v, rfl⟩ := Int.eq_ofNat_of_zero_le h0
  have hv : v < 21 := by omega
  rw [turned_get _ _ _ _ hv, adv_get _ _ _ hv]
  unfold turnedAt
  rw [inB_0, if_neg (by simp)]
  simp only [bas, stp]
  rw [adv_get _ _ _ hv]
  simp only [bas, stp, Key.mk.injEq, true_and]; omega
theorem adv_0 (k : Keys) : adv k 0 = k := arr_ext fun i h0 h1 => by
  obtain ⟨v, rfl⟩ := Int.eq_ofNat_of_zero_le h0
  rw [adv_get _ _ _ (by omega)]; simp
theorem free_0 (k : Keys) (f : Int) : free k f 0 = true := by simp [free]
theorem turn_0 {x : Keys} {f : Int} : turn x 0 f = bif goodKeys x then bif allN 21 (fun v => decide (stp x v < 255)) then (turned x 0 f, f, 0) else (zeroK, 0, 4) else (zeroK, 0, 31) := by
  unfold turn
  rw [cntTo_0, free_0]
  simp [inB_0]
abbrev seatOf (a : Arr 3 Int) (j : Nat) : Int := IntKind.i64.wrap (Int.tmod (IntKind.u64.wrap (Arr.get a (j : Int))) 21)
theorem u64_lo (n : Int) : 0 ≤ IntKind.u64.wrap n := by
  simp [IntKind.wrap, IntKind.bits, IntKind.signed]; omega
theorem tmod_wrap (n : Int) (b : Int) (hb : 0 < b) (hb2 : b ≤ 1000) : 0 ≤ IntKind.i64.wrap (Int.tmod (IntKind.u64.wrap n) b) ∧ IntKind.i64.wrap (Int.tmod (IntKind.u64.wrap n) b) < b := by
  have := u64_lo n
  rw [Int.tmod_eq_emod_of_nonneg this]
  have h1 := Int.emod_nonneg (IntKind.u64.wrap n) (show b ≠ 0 by omega)
  have h2 := Int.emod_lt_of_pos (IntKind.u64.wrap n) hb
  rw [i64_in _ (by omega)]; omega
theorem goodKeys_adv {k : Keys} (hk : goodKeys k = true) : ∀ j : Nat, (∀ i : Nat, i < j → (turn (adv k i) 0 i).2.2 = 0) → goodKeys (adv k j) = true
  | 0, _ => by rw [show adv k ((0 : Nat) : Int) = k from adv_0 k]; exact hk
  | j + 1, h => by
    obtain ⟨h1, h2, h3, h4, h5⟩ := turn_ok (h j (by omega))
    have := goodKeys_turned h1 h3 h4
    rwa [turned_adv] at this
theorem eq_law10_RatchetRuns : Eqs c_law10_RatchetRuns g_law10_RatchetRuns := Eqs.tot fun (k, a, n, _) hf => by
  change Int at n
  simp only [g_law10_RatchetRuns]
  obtain ⟨hc0, hc1⟩ := tmod_wrap n 40 (by omega) (by omega)
  generalize hcnt : IntKind.i64.wrap (Int.tmod (IntKind.u64.wrap n) 40) = c at *
  have hseat : ∀ j : Nat, 0 ≤ seatOf a j ∧ seatOf a j < 21 := fun j => tmod_wrap _ 21 (by omega) (by omega)
  rw [lfp_run' (fun i => (((), (), c, (), (), (i : Int), ()), (k, a, fillTo St.key.zero (fun j => Arr.get k (seatOf a j)) i, fillTo 0 (seatOf a) i, ()), ())) 3 (by rw [fill_0, fill_0]; rfl) fun i hi => by
    have h1 : (i : Int) < 3 := by omega
    have hp := fill_put (n := 3) (0 : Int) (seatOf a) i hi
    have hp2 := fill_put (n := 3) St.key.zero (fun j => Arr.get k (seatOf a j)) i hi
    have hg : Arr.get (fillTo (n := 3) (0 : Int) (seatOf a) (i + 1)) (i : Int) = seatOf a i := by
      rw [fillTo, get_make _ _ (by omega) (by omega), if_pos (by omega)]; simp
    have := hseat i
    simp only [g_law10_RatchetRuns_r1, h1, decide_true, cond_true, Int.natCast_nonneg, Bool.and_self]
    simp only [seatOf] at hp hp2 hg this ⊢
    rw [hp]
    simp only [hg, this.1, this.2, decide_true, Bool.and_self, cond_true, hp2, wrap1 i (by omega)]]
  rw [lfp_inr (z := (((), c, (), (), ()), (k, (Arr.make fun j => Arr.get k (seatOf a j) : Path), (Arr.make (seatOf a) : Arr 3 Int), ()), ())) (by simp [g_law10_RatchetRuns_r1, fill_n])]
  simp only [Option.bind_some]
  generalize hP : (Arr.make fun j => Arr.get k (seatOf a j) : Path) = p
  generalize hV : (Arr.make (seatOf a) : Arr 3 Int) = v
  have hpg : ∀ j : Nat, j < 3 → Arr.get p (j : Int) = Arr.get k (seatOf a j) := fun j hj => by rw [← hP, get_make _ _ (by omega) (by omega)]; simp
  have hvg : ∀ j : Nat, j < 3 → Arr.get v (j : Int) = seatOf a j := fun j hj => by rw [← hV, get_make _ _ (by omega) (by omega)]; simp
  have hnn : ((c.toNat : Nat) : Int) = c := by omega
  -- a turn that fails
  have hfail : ∀ j : Nat, (∀ i : Nat, i < j → (turn (adv k i) 0 i).2.2 = 0) → ¬ (turn (adv k j) 0 j).2.2 = 0 → (turn (adv k j) 0 j).2.2 = chk k ∨ (turn (adv k j) 0 j).2.2 = 4 := fun j hj hb => by
    rw [turn_0] at hb ⊢
    cases hg : goodKeys (adv k j) with
    | false =>
      left
      have : j = 0 := by
        cases j with
        | zero => rfl
        | succ i =>
          have h0 := (turn_ok (hj 0 (by omega))).1
          rw [show adv k ((0 : Nat) : Int) = k from adv_0 k] at h0
          rw [goodKeys_adv h0 (i + 1) hj] at hg; cases hg
      subst this
      rw [show adv k ((0 : Nat) : Int) = k from adv_0 k] at hg
      simp [chk, hg]
    | true =>
      right
      rw [hg] at hb
      cases hall : allN 21 (fun w => decide (stp (adv k j) w < 255)) with
      | false => simp
      | true => rw [hall] at hb; simp at hb
  -- the turns
  have loop : lfp g_law10_RatchetRuns_r2 (((), c, (), (), (), 0, ()), (k, p, v, k, ()), ()) =
      some (match fstN c.toNat (fun j => !decide ((turn (adv k j) 0 j).2.2 = 0)) 0 with | some _ => .inl ((true, ()), (), ()) | none => .inr (((), c, (), (), (), ()), (k, p, v, adv k c, ()), ())) := by
    have main : ∀ d i : Nat, i + d = c.toNat → (∀ j : Nat, j < i → (turn (adv k j) 0 j).2.2 = 0) → lfp g_law10_RatchetRuns_r2 (((), c, (), (), (), (i : Int), ()), (k, p, v, adv k i, ()), ()) =
        some (match fstN d (fun j => !decide ((turn (adv k j) 0 j).2.2 = 0)) i with | some _ => .inl ((true, ()), (), ()) | none => .inr (((), c, (), (), (), ()), (k, p, v, adv k c, ()), ())) := by
      intro d
      induction d with
      | zero =>
        intro i hi hj
        have : (i : Int) = c := by omega
        rw [this]
        exact lfp_inr (by simp [g_law10_RatchetRuns_r2, fstN])
      | succ d ih =>
        intro i hi hj
        have h1 : (i : Int) < c := by omega
        simp only [fstN]
        by_cases hb : (turn (adv k i) 0 i).2.2 = 0
        · obtain ⟨q1, q2, q3, q4, q5⟩ := turn_ok hb
          rw [lfp_inl (x' := (((), c, (), (), (), ((i + 1 : Nat) : Int), ()), (k, p, v, adv k ((i + 1 : Nat) : Int), ()), ())) (by
            simp only [g_law10_RatchetRuns_r2, h1, decide_true, cond_true, hb, Bool.not_true, cond_false]
            rw [q5]
            simp [cntTo_0, turned_adv, wrap1 i (by omega)])]
          rw [ih (i + 1) (by omega) (fun j hj2 => by
            by_cases he : j = i
            · subst he; exact hb
            · exact hj j (by omega))]
          simp [hb]
        · rw [lfp_inr (z := .inl ((true, ()), (), ())) (by
            simp only [g_law10_RatchetRuns_r2, h1, decide_true, cond_true, hb, decide_false, Bool.not_false]
            rcases hfail i hj hb with h | h
            · simp [h]
            · cases decide ((turn (adv k i) 0 i).2.2 = chk k) <;> simp [h])]
          simp [hb]
    have := main c.toNat 0 (by omega) (fun j hj => by omega)
    rwa [show adv k ((0 : Nat) : Int) = k from adv_0 k] at this
  rw [loop]
  simp only [Option.bind_some]
  cases hfst : fstN c.toNat (fun j => !decide ((turn (adv k j) 0 j).2.2 = 0)) 0 with
  | some i => rfl
  | none =>
    have hall : ∀ j : Nat, j < c.toNat → (turn (adv k j) 0 j).2.2 = 0 := fun j hj => by simpa using fstN_none hfst j (by omega) (by omega)
    simp only [Sum.elim_inr]
    by_cases hk : goodKeys k = true
    · have hk0 := chk_0.2 hk
      simp only [hk0, decide_true, Bool.not_true, cond_false]
      -- every key may be advanced so far
      have hst : ∀ w : Nat, w < 21 → stp k w + c ≤ 255 := fun w hw => by
        by_cases hc : c = 0
        · have := good_iff.1 (goodKeys_iff.1 hk w hw).1
          simp only [stp]; omega
        · obtain ⟨_, _, _, q4, _⟩ := turn_ok (hall (c.toNat - 1) (by omega))
          have := (q4 w hw).resolve_left (by rw [inB_0]; simp)
          simp only [stp] at this
          rw [adv_get _ _ _ hw] at this
          simp only [stp] at this ⊢; omega
      have hah : ∀ j : Nat, j < 3 → ahead (Arr.get p (j : Int)) c = (⟨bas k (seatOf a j), stp k (seatOf a j) + c⟩, 0) := fun j hj => by
        obtain ⟨s1, s2⟩ := hseat j
        obtain ⟨w, hw⟩ := Int.eq_ofNat_of_zero_le s1
        have hwl : w < 21 := by omega
        have g := (goodKeys_iff.1 hk w hwl).1
        have := hst w hwl
        rw [hpg j hj, hw]
        unfold ahead
        rw [if_pos g, if_pos ⟨hc0, this⟩]
      have h0 := hah 0 (by omega)
      have h1 := hah 1 (by omega)
      have h2 := hah 2 (by omega)
      have hfo : follow p c = (Arr.make fun j => ⟨bas k (seatOf a j), stp k (seatOf a j) + c⟩, 0) := by
        unfold follow
        rw [show ((0 : Nat) : Int) = 0 from rfl] at h0
        rw [show ((1 : Nat) : Int) = 1 from rfl] at h1
        rw [show ((2 : Nat) : Int) = 2 from rfl] at h2
        rw [h0, h1, h2, if_neg (by simp), if_neg (by simp)]
        congr 1
        apply arr_ext
        intro i hi0 hi1
        rw [get_make _ _ hi0 hi1, get_put _ _ _ _ (by omega) (by omega) hi0, get_put _ _ _ _ (by omega) (by omega) hi0, get_put _ _ _ _ (by omega) (by omega) hi0]
        have : i = 0 ∨ i = 1 ∨ i = 2 := by omega
        rcases this with rfl | rfl | rfl <;> rfl
      rw [hfo]
      simp only [decide_true, Bool.not_true, cond_false]
      rw [lfp_run' (fun i => ((c, (), (), (), (), (i : Int), ()), (p, v, adv k c, (Arr.make fun j => ⟨bas k (seatOf a j), stp k (seatOf a j) + c⟩ : Path), ()), ())) 3 (by rfl) fun i hi => by
        have h1 : (i : Int) < 3 := by omega
        obtain ⟨s1, s2⟩ := hseat i
        have hx : Arr.get (adv k c) (seatOf a i) = ⟨bas k (seatOf a i), stp k (seatOf a i) + c⟩ := by
          obtain ⟨w, hw⟩ := Int.eq_ofNat_of_zero_le s1
          rw [hw]; exact adv_get _ _ _ (by omega)
        have hq : Arr.get (Arr.make fun j => ⟨bas k (seatOf a j), stp k (seatOf a j) + c⟩ : Path) (i : Int) = ⟨bas k (seatOf a i), stp k (seatOf a i) + c⟩ := by
          rw [get_make _ _ (by omega) (by omega)]; simp
        have hfk := fine_keys hf.1 (seatOf a i) s1 s2
        have hw : IntKind.i64.wrap (stp k (seatOf a i) + c - c) = stp k (seatOf a i) := by
          rw [show stp k (seatOf a i) + c - c = stp k (seatOf a i) by omega]; exact i64_in _ hfk.2
        simp only [g_law10_RatchetRuns_r3, h1, decide_true, cond_true, Int.natCast_nonneg, Bool.and_self, hvg i hi, s1, s2, hx, hq, hpg i hi, hw, Bool.not_true, cond_false, wrap1 i (by omega)]]
      rw [lfp_inr (z := .inr ((), (), ())) (by simp [g_law10_RatchetRuns_r3])]
      simp
    · have hc : c.toNat = 0 := by
        by_cases h : c.toNat = 0
        · exact h
        · have := (turn_ok (hall 0 (by omega))).1
          rw [show adv k ((0 : Nat) : Int) = k from adv_0 k] at this
          exact absurd this hk
      have : chk k = 31 := by unfold chk; rw [Bool.eq_false_iff.2 hk]; rfl
      have hc : c = 0 := by omega
      simp [this, hc]
end Go.Co.N
