/-
  Turns, leaves' keys, paths; the laws of chapter 10.
  Own text, for the claims about coterie. No program in sight.
-/
import Derived.Test.YtghmcodjbkmlnaaN10P
namespace Go.Co.N
open Go Go.Co

/-! ### Turns -/
/-- The keys behind a part of a turn: from node j on. -/
def mixed (k : Keys) (m f : Int) (j : Nat) : Keys := Arr.make fun w => if j ≤ w then turnedAt k m f w else Arr.get k (w : Int)
theorem mixed_21 (k : Keys) (m f : Int) : mixed k m f 21 = k := arr_ext fun i h0 h1 => by
  rw [mixed, get_make _ _ h0 h1, if_neg (by omega), Int.toNat_of_nonneg h0]
theorem mixed_0 (k : Keys) (m f : Int) : mixed k m f 0 = turned k m f := arr_ext fun i h0 h1 => by
  rw [mixed, turned, get_make _ _ h0 h1, get_make _ _ h0 h1, if_pos (by omega)]
theorem mixed_put (k : Keys) (m f : Int) (v : Nat) (hv : v < 21) : Arr.put (mixed k m f (v + 1)) (v : Int) (turnedAt k m f v) = mixed k m f v := arr_ext fun i h0 h1 => by
  rw [get_put _ _ _ _ (by omega) (by omega) h0]
  split
  · rename_i h; subst h
    rw [mixed, get_make _ _ h0 h1, if_pos (by omega)]; rfl
  · rename_i h
    rw [mixed, mixed, get_make _ _ h0 h1, get_make _ _ h0 h1]
    by_cases hi : v + 1 ≤ i.toNat
    · rw [if_pos hi, if_pos (by omega)]
    · rw [if_neg hi, if_neg (by omega)]
theorem mixed_get (k : Keys) (m f : Int) (v : Nat) (hv : v < 21) : Arr.get (mixed k m f (v + 1)) (v : Int) = Arr.get k (v : Int) := by
  rw [mixed, get_make _ _ (by omega) (by omega), if_neg (by omega)]; simp
theorem allN_rev (n : Nat) (p : Nat → Bool) : allN n (fun i => p (n - 1 - i)) = allN n p := bool_eq (by
  rw [allN_iff, allN_iff]
  exact ⟨fun h i hi => by have := h (n - 1 - i) (by omega); rwa [show n - 1 - (n - 1 - i) = i by omega] at this, fun h i hi => h _ (by omega)⟩)
theorem chk_0 {k : Keys} : chk k = 0 ↔ goodKeys k = true := by unfold chk; cases goodKeys k <;> simp
theorem ahead_1 {k : Key} (hg : good k = true) : ahead k 1 = if k.Step < 255 then (⟨k.Base, k.Step + 1⟩, 0) else (⟨0, 0⟩, 4) := by
  unfold ahead
  rw [if_pos hg]
  by_cases h : k.Step < 255
  · rw [if_pos ⟨by omega, by omega⟩, if_pos h]
  · rw [if_neg (by omega), if_neg h]
theorem free_cnt {k : Keys} {f n : Int} (h : free k f n = true) : n = 0 ∨ (1 ≤ f ∧ f ≤ 32768 - n ∧ ∀ v : Nat, v < 21 → ¬ (f ≤ bas k v ∧ bas k v < f + n)) := by
  unfold free at h
  simp only [Bool.or_eq_true, Bool.and_eq_true, decide_eq_true_eq, allN_iff] at h
  rcases h with h | ⟨⟨h1, h2⟩, h3⟩
  · exact .inl h
  · exact .inr ⟨h1, h2, fun v hv => by have := h3 v hv; simp at this; omega⟩
theorem cnt_in {m : Int} {v : Nat} (hv : v < 21) (h : inB m v = true) : cntTo m (v + 1) = cntTo m v + 1 ∧ cntTo m (v + 1) ≤ cntTo m 21 ∧ 0 ≤ cntTo m v := by
  refine ⟨by simp [cntTo, h], (cntTo_mono m (by omega)).1, (cntTo_le m v).1⟩
theorem bits_zero : ∀ (d n : Nat), n < 2 ^ d → bits d n = 0 → n = 0
  | 0, n, h, _ => by simpa using h
  | d + 1, n, h, hb => by
    simp only [bits] at hb
    have := bits_zero d (n / 2) (by rw [Nat.pow_succ] at h; omega) (by omega)
    omega
/-- No node beyond the inner ones: the mask is small. -/
theorem small_iff {m : Int} (h0 : 0 ≤ m) (h1 : m ≤ 4294967295) : allN 11 (fun i => !inB m ((21 + i : Nat) : Int)) = true ↔ m < 2097152 := by
  rw [allN_iff]
  constructor
  · intro h
    obtain ⟨n, rfl⟩ := Int.eq_ofNat_of_zero_le h0
    have hc : ∀ d, d ≤ 11 → cntTo (n : Int) (21 + d) = cntTo (n : Int) 21 := by
      intro d
      induction d with
      | zero => simp
      | succ d ih =>
        intro hd
        show cntTo (n : Int) (21 + d) + (if inB (n : Int) ((21 + d : Nat) : Int) = true then 1 else 0) = _
        have := h d (by omega)
        simp only [Bool.not_eq_true'] at this
        rw [ih (by omega), this, if_neg (by simp), Int.add_zero]
    have h32 := hc 11 (by omega)
    rw [← bits_cnt n 32 (by omega), ← bits_cnt n 21 (by omega), bits_add 21 11 n] at h32
    have := bits_zero 11 (n / 2 ^ 21) (by omega) (by omega)
    omega
  · intro h i hi
    rw [inB_big h0 (k := 21) (by omega) (by omega)]; rfl
theorem shr_21 {m : Int} (h0 : 0 ≤ m) : decide (shrI .u32 m 21 = 0) = decide (m < 2097152) := by
  rw [shr_u32 m 21 (by omega) (by omega)]
  congr 1
  simp only [eq_iff_iff]
  constructor
  · intro h; have : m / 2097152 = 0 := h; omega
  · intro h; show m / 2097152 = 0; omega

section
variable {k : Keys} {m f : Int} (hk : goodKeys k = true) (hm : 0 ≤ m ∧ m ≤ 4294967295) (hf : I64 f) (hfr : free k f (cntTo m 21) = true)
/-- The fresh name behind a part of a turn. -/
abbrev nameAt (m f : Int) (i : Nat) : Int := f + (cntTo m 21 - cntTo m (21 - i))
include hf hfr in
theorem name_next {i : Nat} (hi : i < 21) : nameAt m f (i + 1) = if inB m ((20 - i : Nat) : Int) = true then IntKind.i64.wrap (nameAt m f i + 1) else nameAt m f i := by
  have e : 21 - i = (20 - i) + 1 := by omega
  have e2 : 21 - (i + 1) = 20 - i := by omega
  split
  · rename_i hin
    obtain ⟨h1, h2, h3⟩ := cnt_in (by omega) hin
    have h4 := cntTo_le m 21
    rcases free_cnt hfr with h | ⟨h5, h6, _⟩
    · omega
    · simp only [nameAt, e, e2]
      rw [i64_in _ (by omega)]; omega
  · rename_i hin
    simp only [nameAt, e, e2, cntTo]
    rw [if_neg hin]; simp
include hk hm hf hfr in
theorem turn_loop_a : lfp g_ratchet_Turn_r1 ((m, f, (), (), 0, ()), (k, zeroK, ()), ()) =
    some (bif allN 21 (fun v => inB m v || decide (stp k v < 255)) then .inr ((f + cntTo m 21, (), (), ()), (turned k m f, zeroK, ()), ()) else .inl (((), 0, 4, ()), (zeroK, ()), ())) := by
  rw [← allN_rev 21 fun v => inB m v || decide (stp k v < 255)]
  refine lfp_all' (fun i => ((m, nameAt m f i, (), (), (i : Int), ()), (mixed k m f (21 - i), zeroK, ()), ())) 21 (fun i => inB m ((20 - i : Nat) : Int) || decide (stp k ((20 - i : Nat) : Int) < 255)) _ _ ?_ ?_ ?_ ?_
  · simp [nameAt, mixed_21]
  · intro i hi hok
    have h1 : (i : Int) < 21 := by omega
    have hw : IntKind.i64.wrap (20 - (i : Int)) = ((20 - i : Nat) : Int) := by rw [i64_in _ (by omega)]; omega
    have hr : (decide (0 ≤ ((20 - i : Nat) : Int)) && decide (((20 - i : Nat) : Int) < 21)) = true := inr (by omega) (Int.le_refl _)
    have hp := mixed_put k m f (20 - i) (by omega)
    have hgt := mixed_get k m f (20 - i) (by omega)
    have hnx := name_next hf hfr hi
    rw [show 20 - i + 1 = 21 - i by omega] at hp hgt
    have hpar := (goodKeys_iff.1 hk (20 - i) (by omega)).1
    simp only [g_ratchet_Turn_r1, h1, decide_true, cond_true, hw, hr, bit_in' m _ hm.1 hm.2 (show 0 ≤ ((20 - i : Nat) : Int) by omega) (show ((20 - i : Nat) : Int) < 32 by omega), wrap1 i (by omega), hgt, ahead_1 hpar]
    rw [show 21 - (i + 1) = 20 - i by omega]
    cases hin : inB m ((20 - i : Nat) : Int) with
    | true =>
      rw [hin, if_pos rfl] at hnx
      simp only [cond_true, hnx, ← hp, turnedAt, hin, if_true]
      rw [show 20 - i + 1 = 21 - i by omega]
    | false =>
      rw [hin, if_neg (by simp)] at hnx
      rw [hin] at hok
      have hs : (Arr.get k ((20 - i : Nat) : Int)).Step < 255 := by simpa using hok
      simp [hs, hnx, ← hp, turnedAt, hin]
  · intro i hi hok
    have h1 : (i : Int) < 21 := by omega
    have hw : IntKind.i64.wrap (20 - (i : Int)) = ((20 - i : Nat) : Int) := by rw [i64_in _ (by omega)]; omega
    have hr : (decide (0 ≤ ((20 - i : Nat) : Int)) && decide (((20 - i : Nat) : Int) < 21)) = true := inr (by omega) (Int.le_refl _)
    have hgt := mixed_get k m f (20 - i) (by omega)
    rw [show 20 - i + 1 = 21 - i by omega] at hgt
    have hpar := (goodKeys_iff.1 hk (20 - i) (by omega)).1
    have hok : inB m ((20 - i : Nat) : Int) = false ∧ ¬ (Arr.get k ((20 - i : Nat) : Int)).Step < 255 := by
      have := hok
      simp only [Bool.or_eq_false_iff, decide_eq_false_iff_not] at this; exact this
    simp only [g_ratchet_Turn_r1, h1, decide_true, cond_true, hw, hr, bit_in' m _ hm.1 hm.2 (show 0 ≤ ((20 - i : Nat) : Int) by omega) (show ((20 - i : Nat) : Int) < 32 by omega), hgt, ahead_1 hpar, hok.1, hok.2, cond_false, if_false]
    rfl
  · simp [g_ratchet_Turn_r1, mixed_0, nameAt, cntTo]
include hk hf hfr in
theorem turn_loop_b : lfp g_ref10_Turn_r3 ((m, f, (), (), 20, ()), (k, zeroK, ()), ()) =
    some (bif allN 21 (fun v => inB m v || decide (stp k v < 255)) then .inr ((f + cntTo m 21, (), (), ()), (turned k m f, zeroK, ()), ()) else .inl (((), 0, 4, ()), (zeroK, ()), ())) := by
  rw [← allN_rev 21 fun v => inB m v || decide (stp k v < 255)]
  refine lfp_all' (fun i => ((m, nameAt m f i, (), (), 20 - (i : Int), ()), (mixed k m f (21 - i), zeroK, ()), ())) 21 (fun i => inB m ((20 - i : Nat) : Int) || decide (stp k ((20 - i : Nat) : Int) < 255)) _ _ ?_ ?_ ?_ ?_
  · simp [nameAt, mixed_21]
  · intro i hi hok
    have h1 : 0 ≤ 20 - (i : Int) := by omega
    have hw : 20 - (i : Int) = ((20 - i : Nat) : Int) := by omega
    have hr : (decide (0 ≤ ((20 - i : Nat) : Int)) && decide (((20 - i : Nat) : Int) < 21)) = true := inr (by omega) (Int.le_refl _)
    have hp := mixed_put k m f (20 - i) (by omega)
    have hgt := mixed_get k m f (20 - i) (by omega)
    have hnx := name_next hf hfr hi
    rw [show 20 - i + 1 = 21 - i by omega] at hp hgt
    have hpar := (goodKeys_iff.1 hk (20 - i) (by omega)).1
    have hw2 : IntKind.i64.wrap (((20 - i : Nat) : Int) - 1) = 20 - ((i + 1 : Nat) : Int) := by rw [i64_in _ (by omega)]; omega
    simp only [g_ref10_Turn_r3, h1, hw, hw2, decide_true, cond_true, hr, hgt, ahead_1 hpar]
    rw [show 21 - (i + 1) = 20 - i by omega, decide_eq_true (show 0 ≤ ((20 - i : Nat) : Int) by omega)]
    simp only [cond_true]
    cases hin : inB m ((20 - i : Nat) : Int) with
    | true =>
      rw [hin, if_pos rfl] at hnx
      simp only [cond_true, hnx, ← hp, turnedAt, hin, if_true]
      rw [show 20 - i + 1 = 21 - i by omega]
    | false =>
      rw [hin, if_neg (by simp)] at hnx
      rw [hin] at hok
      have hs : (Arr.get k ((20 - i : Nat) : Int)).Step < 255 := by simpa using hok
      simp [hs, hnx, ← hp, turnedAt, hin]
  · intro i hi hok
    have hw : 20 - (i : Int) = ((20 - i : Nat) : Int) := by omega
    have hr : (decide (0 ≤ ((20 - i : Nat) : Int)) && decide (((20 - i : Nat) : Int) < 21)) = true := inr (by omega) (Int.le_refl _)
    have hgt := mixed_get k m f (20 - i) (by omega)
    rw [show 20 - i + 1 = 21 - i by omega] at hgt
    have hpar := (goodKeys_iff.1 hk (20 - i) (by omega)).1
    have hok : inB m ((20 - i : Nat) : Int) = false ∧ ¬ (Arr.get k ((20 - i : Nat) : Int)).Step < 255 := by
      have := hok
      simp only [Bool.or_eq_false_iff, decide_eq_false_iff_not] at this; exact this
    simp only [g_ref10_Turn_r3, hw, show 0 ≤ ((20 - i : Nat) : Int) by omega, show ((20 - i : Nat) : Int) < 21 by omega, decide_true, Bool.and_self, cond_true, hgt, ahead_1 hpar, hok.1, hok.2, cond_false, decide_false, if_false]
    rfl
  · simp [g_ref10_Turn_r3, mixed_0, nameAt, cntTo]
end
theorem eq_ratchet_Turn : Eqs c_ratchet_Turn g_ratchet_Turn := Eqs.tot fun (k, m, f, _) hf => by
  change Int at m f
  have hm : 0 ≤ m ∧ m ≤ 4294967295 := fine_u32.1 hf.2.1
  have hff : I64 f := fine_i.1 hf.2.2.1
  simp only [g_ratchet_Turn, turn, chk_0, shr_21 hm.1]
  by_cases hk : goodKeys k = true
  · by_cases hs : m < 2097152
    · have hc : cntTo m 32 = cntTo m 21 := cntTo_small hm.1 (k := 21) (by omega) 11
      have hle := cntTo_le m 21
      have hr : (decide (0 ≤ cntTo m 21) && decide (cntTo m 21 ≤ 32)) = true := by simp; omega
      simp only [hk, hs, decide_true, Bool.not_true, cond_false, hc, hr, cond_true, Option.bind_some]
      cases hfr : free k f (cntTo m 21) with
      | false => simp
      | true =>
        simp only [Bool.not_true, cond_false, cond_true]
        have := turn_loop_a hk hm hff hfr
        rw [show (Vector.replicate 21 (St.zero St.key) : Keys) = zeroK from rfl, this]
        cases allN 21 (fun v => inB m v || decide (stp k v < 255)) <;> rfl
    · simp [hk, hs]
  · simp [hk]
theorem eq_ref10_Turn : Eqs c_ref10_Turn g_ref10_Turn := Eqs.tot fun (k, m, f, _) hf => by
  change Int at m f
  have hm : 0 ≤ m ∧ m ≤ 4294967295 := fine_u32.1 hf.2.1
  have hff : I64 f := fine_i.1 hf.2.2.1
  simp only [g_ref10_Turn, turn, chk_0]
  by_cases hk : goodKeys k = true
  · simp only [hk, decide_true, Bool.not_true, cond_false, cond_true]
    rw [lfp_all' (fun i => ((m, f, (), (), ((21 + i : Nat) : Int), ()), (k, zeroK, ()), ())) 11 (fun i => !inB m ((21 + i : Nat) : Int)) (.inl (((), 0, 2, ()), (zeroK, ()), ())) (.inr ((m, f, (), (), ()), (k, zeroK, ()), ())) (by simp)
      (fun i hi hok => by
        have h1 : ((21 + i : Nat) : Int) < 32 := by omega
        have hok : inB m ((21 + i : Nat) : Int) = false := by simpa using hok
        simp only [g_ref10_Turn_r1, h1, hok, decide_true, cond_true, cond_false, wrap1 (21 + i) (by omega)]; rfl)
      (fun i hi hok => by
        have h1 : ((21 + i : Nat) : Int) < 32 := by omega
        have hok : inB m ((21 + i : Nat) : Int) = true := by simpa using hok
        simp only [g_ref10_Turn_r1, h1, hok, decide_true, cond_true])
      (by simp [g_ref10_Turn_r1])]
    simp only [Option.bind_some]
    by_cases hs : m < 2097152
    · rw [(small_iff hm.1 hm.2).2 hs]
      simp only [hs, decide_true, cond_true, Sum.elim_inr]
      have hle := cntTo_le m 21
      have r2 : 0 < cntTo m 21 → 1 ≤ f → f ≤ 32768 - cntTo m 21 → lfp g_ref10_Turn_r2 ((m, f, (), (), cntTo m 21, 0, ()), (k, zeroK, ()), ()) =
          some (bif allN 21 (fun v => !(decide (f ≤ bas k v) && decide (bas k v < f + cntTo m 21))) then .inr ((m, f, (), (), ()), (k, zeroK, ()), ()) else .inl (((), 0, 3, ()), (zeroK, ()), ())) := fun hp h1 h2 => by
        have hw : IntKind.i64.wrap (f + cntTo m 21) = f + cntTo m 21 := i64_in _ (by omega)
        refine lfp_all' (fun i => ((m, f, (), (), cntTo m 21, (i : Int), ()), (k, zeroK, ()), ())) 21 _ _ _ rfl ?_ ?_ ?_
        · intro i hi hok
          have h1 : (i : Int) < 21 := by omega
          simp only [g_ref10_Turn_r2, h1, hp, decide_true, cond_true, Int.natCast_nonneg, Bool.and_self, hw, wrap1 i (by omega)]
          by_cases a1 : f ≤ (Arr.get k i).Base
          · have a2 : ¬ (Arr.get k i).Base < f + cntTo m 21 := by simp [bas, a1] at hok; omega
            simp [a1, a2]
          · simp [a1]
        · intro i hi hok
          have h1 : (i : Int) < 21 := by omega
          have hok : f ≤ (Arr.get k i).Base ∧ (Arr.get k i).Base < f + cntTo m 21 := by simpa [bas] using hok
          simp only [g_ref10_Turn_r2, h1, hp, decide_true, cond_true, Int.natCast_nonneg, Bool.and_self, hw, hok.1, hok.2]
        · simp [g_ref10_Turn_r2]
      have r20 : cntTo m 21 = 0 → lfp g_ref10_Turn_r2 ((m, f, (), (), 0, 0, ()), (k, zeroK, ()), ()) = some (.inr ((m, f, (), (), ()), (k, zeroK, ()), ())) := fun h => lfp_inr (by simp [g_ref10_Turn_r2])
      have zk : (Vector.replicate 21 (St.zero St.key) : Keys) = zeroK := rfl
      by_cases hp : 0 < cntTo m 21
      · simp only [hp, decide_true, cond_true]
        rw [i64_in _ (by omega)]
        by_cases g1 : f < 1
        · have : free k f (cntTo m 21) = false := by
            have h0 : ¬ cntTo m 21 = 0 := by omega
            have h1 : ¬ 1 ≤ f := by omega
            simp [free, h0, h1]
          simp [g1, this, zk]
        · by_cases g2 : 32768 - cntTo m 21 < f
          · have : free k f (cntTo m 21) = false := by
              have h0 : ¬ cntTo m 21 = 0 := by omega
              have h1 : ¬ f ≤ 32768 - cntTo m 21 := by omega
              simp [free, h0, h1]
            simp [g1, g2, this, zk]
          · simp only [g1, g2, decide_false, cond_false]
            rw [r2 hp (by omega) (by omega)]
            have hfe : free k f (cntTo m 21) = allN 21 (fun v => !(decide (f ≤ bas k v) && decide (bas k v < f + cntTo m 21))) := by
              have h0 : ¬ cntTo m 21 = 0 := by omega
              have h1 : 1 ≤ f := by omega
              have h2 : f ≤ 32768 - cntTo m 21 := by omega
              simp [free, h0, h1, h2]
            rw [hfe]
            cases hall : allN 21 (fun v => !(decide (f ≤ bas k v) && decide (bas k v < f + cntTo m 21))) with
            | false => simp
            | true =>
              simp only [cond_true, Option.bind_some, Sum.elim_inr]
              rw [turn_loop_b hk hff (by rw [hfe, hall])]
              cases allN 21 (fun v => inB m v || decide (stp k v < 255)) <;> rfl
      · have h0 : cntTo m 21 = 0 := by omega
        have hfr : free k f (cntTo m 21) = true := by simp [free, h0]
        simp only [hp, decide_false, cond_false, hfr, cond_true]
        rw [h0, r20 h0]
        simp only [Option.bind_some, Sum.elim_inr]
        rw [turn_loop_b hk hff hfr, h0]
        cases allN 21 (fun v => inB m v || decide (stp k v < 255)) <;> rfl
    · rw [Bool.eq_false_iff.2 fun h => hs ((small_iff hm.1 hm.2).1 h)]; simp [hs]
  · simp [hk]

/-! ### Leaves, paths -/
theorem eq_ratchet_LeafAt : Eqs c_ratchet_LeafAt g_ratchet_LeafAt := Eqs.tot fun (e, n, _) hf => by
  change Int at n
  have hn : n ≤ 9223372036854775807 := (fine_i.1 hf.2.1).2
  simp only [g_ratchet_LeafAt, leafAt]
  by_cases h0 : e.Base = 0
  · simp [h0]
  by_cases h1 : e.Base < 1 ∨ 32768 ≤ e.Base ∨ e.Since < 1 ∨ 200 < e.Since
  · rw [if_neg h0, if_pos h1]
    rcases h1 with h1 | h1 | h1 | h1
    · have : e.Base < 0 := by omega
      simp [h0, this]
    · simp [h0, h1]
    · simp [h0, h1]
    · simp [h0, h1]
  · rw [if_neg h0, if_neg h1]
    have g1 : ¬ e.Base < 0 := by omega
    have g2 : ¬ 32768 ≤ e.Base := by omega
    have g3 : ¬ e.Since < 1 := by omega
    have g4 : ¬ 200 < e.Since := by omega
    by_cases h2 : n < e.Since
    · simp [h0, g1, g2, g3, g4, h2]
    · simp only [h0, g1, g2, g3, g4, h2, decide_false, cond_false, if_false]
      rw [i64_in _ (by omega)]
      have hg : good ⟨e.Base, 0⟩ = true := good_iff.2 ⟨by simp only; omega, by simp only; omega, by simp, by simp⟩
      unfold ahead
      rw [if_pos hg]
      by_cases h3 : e.Since + 255 < n
      · rw [if_pos h3, if_neg (by simp only; omega)]
      · rw [if_neg h3, if_pos (by simp only; omega)]; simp
theorem eq_ref10_LeafAt : Eqs c_ref10_LeafAt g_ref10_LeafAt := Eqs.tot fun (e, n, _) hf => by
  change Int at n
  have hn : n ≤ 9223372036854775807 := (fine_i.1 hf.2.1).2
  simp only [g_ref10_LeafAt, leafAt]
  by_cases h0 : e.Base = 0
  · simp [h0]
  by_cases h1 : e.Base < 1 ∨ 32768 ≤ e.Base ∨ e.Since < 1 ∨ 200 < e.Since
  · rw [if_neg h0, if_pos h1]
    rcases h1 with h1 | h1 | h1 | h1 <;> simp [h0, h1]
  · rw [if_neg h0, if_neg h1]
    have g1 : ¬ e.Base < 1 := by omega
    have g2 : ¬ 32768 ≤ e.Base := by omega
    have g3 : ¬ e.Since < 1 := by omega
    have g4 : ¬ 200 < e.Since := by omega
    by_cases h2 : n < e.Since
    · simp [h0, g1, g2, g3, g4, h2]
    · simp only [h0, g1, g2, g3, g4, h2, decide_false, cond_false, if_false]
      rw [i64_in _ (by omega), i64_in _ (by omega)]
      by_cases h3 : e.Since + 255 < n <;> simp [h3]
theorem ahead_e (k : Key) (n : Int) : (ahead k n).2 = 0 ∨ (ahead k n).2 = 3 ∨ (ahead k n).2 = 4 := by
  unfold ahead; split
  · split <;> simp
  · simp
theorem ahead_3 (k : Key) (n : Int) : (ahead k n).2 = 3 ↔ good k = false := by
  unfold ahead; cases good k <;> simp
  split <;> simp
theorem eq_ratchet_Follow : Eqs c_ratchet_Follow g_ratchet_Follow := Eqs.tot fun (k, n, _) _ => by
  change Int at n
  simp only [g_ratchet_Follow]
  have w1 : IntKind.i64.wrap (0 + 1) = 1 := by decide
  have w2 : IntKind.i64.wrap (1 + 1) = 2 := by decide
  have w3 : IntKind.i64.wrap (2 + 1) = 3 := by decide
  rw [lfp_step]
  unfold follow
  rcases ahead_e (Arr.get k 0) n with h0 | h0 | h0 <;> simp only [g_ratchet_Follow_r1, h0] <;> simp only [w1] <;> simp
  · rw [lfp_step]
    rcases ahead_e (Arr.get k 1) n with h1 | h1 | h1 <;> simp only [g_ratchet_Follow_r1, h1] <;> simp only [w2] <;> simp
    · rw [lfp_step]
      rcases ahead_e (Arr.get k 2) n with h2 | h2 | h2 <;> simp only [g_ratchet_Follow_r1, h2] <;> simp only [w3] <;> simp
      · rw [lfp_step]; simp [g_ratchet_Follow_r1]
      · rw [lfp_step]; simp [g_ratchet_Follow_r1]
    · rw [lfp_step]
      rcases ahead_e (Arr.get k 2) n with h2 | h2 | h2 <;> simp only [g_ratchet_Follow_r1, h2] <;> simp only [w3] <;> simp
      · rw [lfp_step]; simp [g_ratchet_Follow_r1]
      · rw [lfp_step]; simp [g_ratchet_Follow_r1]
  · rw [lfp_step]
    rcases ahead_e (Arr.get k 1) n with h1 | h1 | h1 <;> simp only [g_ratchet_Follow_r1, h1] <;> simp only [w2] <;> simp
    · rw [lfp_step]
      rcases ahead_e (Arr.get k 2) n with h2 | h2 | h2 <;> simp only [g_ratchet_Follow_r1, h2] <;> simp only [w3] <;> simp
      · rw [lfp_step]; simp [g_ratchet_Follow_r1]
      · rw [lfp_step]; simp [g_ratchet_Follow_r1]
    · rw [lfp_step]
      rcases ahead_e (Arr.get k 2) n with h2 | h2 | h2 <;> simp only [g_ratchet_Follow_r1, h2] <;> simp only [w3] <;> simp
      · rw [lfp_step]; simp [g_ratchet_Follow_r1]
      · rw [lfp_step]; simp [g_ratchet_Follow_r1]
theorem eq_ref10_Follow : Eqs c_ref10_Follow g_ref10_Follow := Eqs.tot fun (k, n, _) _ => by
  change Int at n
  simp only [g_ref10_Follow]
  have w1 : IntKind.i64.wrap (0 + 1) = 1 := by decide
  have w2 : IntKind.i64.wrap (1 + 1) = 2 := by decide
  have w3 : IntKind.i64.wrap (2 + 1) = 3 := by decide
  unfold follow
  rw [lfp_step]
  cases g0 : good (Arr.get k 0) with
  | false =>
    have h0 := (ahead_3 _ n).2 g0
    simp [g_ref10_Follow_r1, g0, h0]
  | true =>
    have h0 : ¬ (ahead (Arr.get k 0) n).2 = 3 := fun h => by rw [(ahead_3 _ n).1 h] at g0; cases g0
    simp only [g_ref10_Follow_r1, g0]; simp only [w1]; simp
    rw [lfp_step]
    cases g1 : good (Arr.get k 1) with
    | false =>
      have h1 := (ahead_3 _ n).2 g1
      simp [g_ref10_Follow_r1, g1, h1]
    | true =>
      have h1 : ¬ (ahead (Arr.get k 1) n).2 = 3 := fun h => by rw [(ahead_3 _ n).1 h] at g1; cases g1
      simp only [g_ref10_Follow_r1, g1]; simp only [w2]; simp
      rw [lfp_step]
      cases g2 : good (Arr.get k 2) with
      | false =>
        have h2 := (ahead_3 _ n).2 g2
        simp [g_ref10_Follow_r1, g2, h2]
      | true =>
        have h2 : ¬ (ahead (Arr.get k 2) n).2 = 3 := fun h => by rw [(ahead_3 _ n).1 h] at g2; cases g2
        simp only [g_ref10_Follow_r1, g2]; simp only [w3]; simp
        rw [lfp_step]
        simp [g_ref10_Follow_r1, h0, h1, h2]
        rw [lfp_step]
        rcases ahead_e (Arr.get k 0) n with e0 | e0 | e0
        · simp only [g_ref10_Follow_r2, e0]; simp only [w1]; simp
          rw [lfp_step]
          rcases ahead_e (Arr.get k 1) n with e1 | e1 | e1
          · simp only [g_ref10_Follow_r2]; rw [get_put_ne _ _ _ _ (by decide)]; simp only [e1]; simp only [w2]; simp
            rw [lfp_step]
            rcases ahead_e (Arr.get k 2) n with e2 | e2 | e2
            · simp only [g_ref10_Follow_r2]; rw [get_put_ne _ _ _ _ (by decide), get_put_ne _ _ _ _ (by decide)]; simp only [e2]; simp only [w3]; simp
              rw [lfp_step]; simp [g_ref10_Follow_r2]
            · exact absurd e2 h2
            · simp only [g_ref10_Follow_r2]; rw [get_put_ne _ _ _ _ (by decide), get_put_ne _ _ _ _ (by decide)]; simp only [e2]; simp
          · exact absurd e1 h1
          · simp only [g_ref10_Follow_r2]; rw [get_put_ne _ _ _ _ (by decide)]; simp only [e1]; simp
        · exact absurd e0 h0
        · simp only [g_ref10_Follow_r2, e0]; simp
end Go.Co.N
