/-
  Shapes and rosters: the functions answer what they are to answer.
  Own text, for the claims about coterie. No program in sight.
-/
import Derived.Test.YtghmcodjbkmlnaaN11G
import Derived.Test.YtghmcodjbkmlnaaN10L
namespace Go.Co.N
open Go Go.Co

/-! ### Shapes -/
theorem eq_ref01_Node : Eqs c_ref01_Node g_ref01_Node := Eqs.tot fun (v, _) _ => by
  change Int at v
  simp only [g_ref01_Node, node]
  cases decide (0 ≤ v) <;> rfl
theorem eq_ref01_Child : Eqs c_ref01_Child g_ref01_Child := Eqs.tot fun (v, i, _) _ => by
  change Int at v i
  simp only [g_ref01_Child, child]
  by_cases h1 : v < 0
  · rw [if_neg (by omega)]; simp [h1]
  by_cases h2 : 21 ≤ v
  · rw [if_neg (by omega)]; simp [h1, h2]
  by_cases h3 : i < 0
  · rw [if_neg (by omega)]; simp [h1, h2, h3]
  by_cases h4 : 4 ≤ i
  · rw [if_neg (by omega)]; simp [h1, h2, h3, h4]
  rw [if_pos (by omega), i64_in (4 * v) (by omega), i64_in (4 * v + 1) (by omega), i64_in _ (by omega)]
  simp [h1, h2, h3, h4]
theorem leaf_eq (s : Int) : (bif decide (s < 0) then some ((-1 : Int), ()) else bif decide (64 ≤ s) then some (-1, ()) else some (IntKind.i64.wrap (21 + s), ())) = some (leaf s, ()) := by
  unfold leaf
  by_cases h1 : s < 0
  · rw [if_neg (by omega)]; simp [h1]
  by_cases h2 : 64 ≤ s
  · rw [if_neg (by omega)]; simp [h1, h2]
  rw [if_pos (by omega), i64_in _ (by omega)]
  simp [h1, h2]
theorem eq_ref01_Leaf : Eqs c_ref01_Leaf g_ref01_Leaf := Eqs.tot fun (s, _) _ => leaf_eq s
theorem eq_shape_Leaf : Eqs c_shape_Leaf g_shape_Leaf := Eqs.tot fun (s, _) _ => leaf_eq s
theorem eq_shape_Slot : Eqs c_shape_Slot g_shape_Slot := Eqs.tot fun (s, _) _ => by
  change Int at s
  simp only [g_shape_Slot, slot]
  by_cases h1 : s < 21
  · rw [if_neg (by omega)]; simp [h1]
  by_cases h2 : 85 ≤ s
  · rw [if_neg (by omega)]; simp [h1, h2]
  rw [if_pos (by omega), i64_in _ (by omega)]
  simp [h1, h2]
theorem leaf_in {s : Nat} (h : s < 64) : leaf (s : Int) = 21 + s := by unfold leaf; rw [if_pos (by omega)]
theorem leaf_pos {s : Int} : 0 ≤ leaf s ↔ 0 ≤ s ∧ s < 64 := by
  unfold leaf
  by_cases h : 0 ≤ s ∧ s < 64
  · rw [if_pos h]; omega
  · rw [if_neg h]; omega
theorem eq_ref01_Parent : Eqs c_ref01_Parent g_ref01_Parent := Eqs.tot fun (v, _) _ => by
  change Int at v
  simp only [g_ref01_Parent, par]
  by_cases h1 : v < 1
  · rw [if_neg (by omega)]; simp [h1]
  by_cases h2 : 85 ≤ v
  · rw [if_neg (by omega)]; simp [h1, h2]
  rw [if_pos (by omega)]
  simp only [h1, h2, decide_false, cond_false]
  have inner : ∀ p : Nat, p < 21 → lfp g_ref01_Parent_r2 ((v, (p : Int), 0, ()), (), ()) = some (match fstN 4 (fun i => decide (child p i = v)) 0 with | some _ => .inl (((p : Int), ()), (), ()) | none => .inr ((v, (p : Int), ()), (), ())) := fun p hp =>
    lfp_find' (fun i => ((v, (p : Int), (i : Int), ()), (), ())) 4 (fun i => decide (child p i = v)) (fun _ => Sum.inl (((p : Int), ()), (), ())) _ rfl
      (fun i hi hb => by
        have g1 : (i : Int) < 4 := by omega
        simp only [g_ref01_Parent_r2, g1, decide_true, cond_true, hb, cond_false, wrap1 i (by omega)])
      (fun i hi hb => by
        have g1 : (i : Int) < 4 := by omega
        simp only [g_ref01_Parent_r2, g1, decide_true, cond_true, hb])
      (by simp [g_ref01_Parent_r2])
  have hch : ∀ p i : Nat, p < 21 → i < 4 → child p i = 4 * p + 1 + i := fun p i hp hi => by unfold child; rw [if_pos (by omega)]
  have hin : ∀ p : Nat, p < 21 → lfp g_ref01_Parent_r2 ((v, (p : Int), 0, ()), (), ()) = some (bif decide (4 * (p : Int) + 1 ≤ v ∧ v ≤ 4 * p + 4) then .inl (((p : Int), ()), (), ()) else .inr ((v, (p : Int), ()), (), ())) := fun p hp => by
    rw [inner p hp]
    cases hf : fstN 4 (fun i => decide (child p i = v)) 0 with
    | some i =>
      obtain ⟨_, hi, hb, _⟩ := fstN_some hf
      simp only [decide_eq_true_eq] at hb
      rw [hch p i hp (by omega)] at hb
      have : 4 * (p : Int) + 1 ≤ v ∧ v ≤ 4 * p + 4 := by omega
      simp [this]
    | none =>
      have hn := fstN_none hf
      have : ¬ (4 * (p : Int) + 1 ≤ v ∧ v ≤ 4 * p + 4) := fun h => by
        have := hn (v - 4 * p - 1).toNat (by omega) (by omega)
        simp only [decide_eq_false_iff_not] at this
        exact this (by rw [hch p _ hp (by omega)]; omega)
      simp [this]
  rw [lfp_find' (fun p => ((v, (p : Int), ()), (), ())) 21 (fun p => decide (4 * (p : Int) + 1 ≤ v ∧ v ≤ 4 * p + 4)) (fun p => Sum.inl (((p : Int), ()), (), ())) (.inr ((), (), ())) (by rfl)
    (fun p hp hb => by
      have g1 : (p : Int) < 21 := by omega
      have := hin p hp
      rw [hb] at this
      simp only [g_ref01_Parent_r1, g1, decide_true, cond_true, this, cond_false, Option.bind_some, Sum.elim_inr, wrap1 p (by omega)])
    (fun p hp hb => by
      have g1 : (p : Int) < 21 := by omega
      have := hin p hp
      rw [hb] at this
      simp only [g_ref01_Parent_r1, g1, decide_true, cond_true, this, Option.bind_some, Sum.elim_inl])
    (by simp [g_ref01_Parent_r1])]
  cases hf : fstN 21 (fun p => decide (4 * (p : Int) + 1 ≤ v ∧ v ≤ 4 * p + 4)) 0 with
  | some p =>
    obtain ⟨_, hi, hb, _⟩ := fstN_some hf
    simp only [decide_eq_true_eq] at hb
    simp only [Option.bind_some, Sum.elim_inl, Option.some.injEq, Prod.mk.injEq, and_true]
    omega
  | none =>
    have := fstN_none hf ((v - 1) / 4).toNat (by omega) (by omega)
    simp only [decide_eq_false_iff_not] at this
    omega
theorem par_in {v : Int} (h1 : 1 ≤ v) (h2 : v < 85) : par v = (v - 1) / 4 := by unfold par; rw [if_pos ⟨h1, h2⟩]
theorem par_out {v : Int} (h : v < 1) : par v = -1 := by unfold par; rw [if_neg (by omega)]
theorem eq_ref01_Path : Eqs c_ref01_Path g_ref01_Path := Eqs.tot fun (s, _) _ => by
  change Int at s
  simp only [g_ref01_Path]
  by_cases h : 0 ≤ leaf s
  · have hs := leaf_pos.1 h
    have hl : leaf s = 21 + s := by unfold leaf; rw [if_pos hs]
    have hn : ¬ leaf s < 0 := by omega
    simp only [hn, h, decide_false, decide_true, cond_false, cond_true]
    rw [lfp_run' (fun i => (((), (), (if i = 0 then 21 + s else pathAt s (i - 1)), (i : Int), ()), (zero3, fillTo 0 (pathAt s) i, ()), ())) 3 (by rw [fill_0, hl]; rfl) fun i hi => by
      have g1 : (i : Int) < 3 := by omega
      have hp : par (if i = 0 then 21 + s else pathAt s (i - 1)) = pathAt s i := by
        have : i = 0 ∨ i = 1 ∨ i = 2 := by omega
        rcases this with rfl | rfl | rfl
        · show par (21 + s) = 5 + s / 4
          rw [par_in (by omega) (by omega)]; omega
        · show par (5 + s / 4) = 1 + s / 16
          rw [par_in (by omega) (by omega)]; omega
        · show par (1 + s / 16) = 0
          rw [par_in (by omega) (by omega)]; omega
      simp only [g_ref01_Path_r1, g1, decide_true, cond_true, Int.natCast_nonneg, Bool.and_self, hp, wrap1 i (by omega), fill_put (n := 3) (0 : Int) (pathAt s) i hi]
      simp]
    rw [lfp_inr (z := (((), (), ()), (zero3, pathN s, ()), ())) (by simp [g_ref01_Path_r1, fill_n, pathN])]
    simp
  · have hn : leaf s < 0 := by omega
    simp [h, hn]
theorem eq_shape_Path : Eqs c_shape_Path g_shape_Path := Eqs.tot fun (s, _) _ => by
  change Int at s
  simp only [g_shape_Path]
  by_cases h : 0 ≤ leaf s
  · have hs := leaf_pos.1 h
    have hn : ¬ leaf s < 0 := by omega
    simp only [hn, h, decide_false, decide_true, cond_false, cond_true]
    rw [lfp_run' (fun i => ((s, (), (), (i : Int), ()), (zero3, fillTo 0 (pathAt s) i, ()), ())) 3 (by rw [fill_0]; rfl) fun i hi => by
      have g1 : (i : Int) < 3 := by omega
      rw [← fill_put (n := 3) (0 : Int) (pathAt s) i hi]
      have : i = 0 ∨ i = 1 ∨ i = 2 := by omega
      have wn : ∀ n : Int, 0 ≤ n → n ≤ 10 → IntKind.i64.wrap n = n := fun n h1 h2 => i64_in _ (by omega)
      have w0 := wn 0 (by omega) (by omega)
      have w1 := wn 1 (by omega) (by omega)
      have w2 := wn 2 (by omega) (by omega)
      have w3 := wn 3 (by omega) (by omega)
      have w4 := wn 4 (by omega) (by omega)
      have w6 := wn 6 (by omega) (by omega)
      have k2 : shrI IntKind.i64 s 2 = s / 4 := by unfold shrI; rw [Int.fdiv_eq_ediv_of_nonneg _ (by decide)]; rfl
      have k4 : shrI IntKind.i64 s 4 = s / 16 := by unfold shrI; rw [Int.fdiv_eq_ediv_of_nonneg _ (by decide)]; rfl
      have k6 : shrI IntKind.i64 s 6 = 0 := by unfold shrI; rw [Int.fdiv_eq_ediv_of_nonneg _ (by decide)]; show s / 64 = 0; omega
      rcases this with rfl | rfl | rfl
      · simp [g_shape_Path_r1, w1, w2, k2, firstOf, pathAt]
        rw [i64_in _ (by omega)]
      · simp [g_shape_Path_r1, w1, w2, w4, k4, firstOf, pathAt]
        rw [i64_in _ (by omega)]
      · simp [g_shape_Path_r1, w0, w3, w6, k6, firstOf, pathAt]]
    rw [lfp_inr (z := (((), (), ()), (zero3, pathN s, ()), ())) (by simp [g_shape_Path_r1, fill_n, pathN])]
    simp
  · have hn : leaf s < 0 := by omega
    simp [h, hn]
theorem eq_ref01_Below : Eqs c_ref01_Below g_ref01_Below := Eqs.tot fun (v, w, _) _ => by
  change Int at v w
  simp only [g_ref01_Below, below]
  cases hv : node v with
  | false => simp
  | true =>
    cases hw : node w with
    | false => simp
    | true =>
      have hv := node_iff.1 hv
      have hw := node_iff.1 hw
      have step : ∀ w : Int, lfp g_ref01_Below_r1 ((v, w, ()), (), ()) = if v < w then lfp g_ref01_Below_r1 ((v, par w, ()), (), ()) else some ((v, w, ()), (), ()) := fun w => by
        by_cases h : v < w
        · rw [if_pos h, lfp_inl (by simp only [g_ref01_Below_r1, h, decide_true, cond_true]; rfl)]
        · rw [if_neg h]; exact lfp_inr (by simp [g_ref01_Below_r1, h])
      have f1 : ∀ w : Int, -1 ≤ w → w < 85 → -1 ≤ par w ∧ (1 ≤ w → par w = (w - 1) / 4) ∧ (w < 1 → par w = -1) := fun w h1 h2 => by
        refine ⟨?_, fun h => par_in h h2, fun h => par_out h⟩
        by_cases h : 1 ≤ w
        · rw [par_in h h2]; omega
        · rw [par_out (by omega)]; omega
      have a1 := f1 w (by omega) hw.2
      have a2 := f1 (par w) (by omega) (by omega)
      have a3 := f1 (par (par w)) (by omega) (by omega)
      have a4 := f1 (par (par (par w))) (by omega) (by omega)
      simp only [Bool.not_true, cond_false, Bool.true_and]
      rw [step w]
      split
      · rw [step (par w)]
        split
        · rw [step (par (par w))]
          split
          · rw [step (par (par (par w))), if_neg (by omega)]
            simp only [Option.bind_some, Option.some.injEq, Prod.mk.injEq, and_true]
            apply bool_eq; simp only [decide_eq_true_eq, Bool.or_eq_true]; omega
          · simp only [Option.bind_some, Option.some.injEq, Prod.mk.injEq, and_true]
            apply bool_eq; simp only [decide_eq_true_eq, Bool.or_eq_true]; omega
        · simp only [Option.bind_some, Option.some.injEq, Prod.mk.injEq, and_true]
          apply bool_eq; simp only [decide_eq_true_eq, Bool.or_eq_true]; omega
      · simp only [Option.bind_some, Option.some.injEq, Prod.mk.injEq, and_true]
        apply bool_eq; simp only [decide_eq_true_eq, Bool.or_eq_true]; omega
theorem eq_shape_first : Eqs c_shape_first g_shape_first := fun (l, _) y _ h => by
  change Int at l
  simp only [guardK] at h
  have hl : 0 ≤ l ∧ l ≤ 3 := by
    cases hc : (decide (0 ≤ l) && decide (l ≤ 3)) with
    | true => simpa using hc
    | false => rw [hc] at h; cases h
  have hc : (decide (0 ≤ l) && decide (l ≤ 3)) = true := by simpa using hl
  rw [hc] at h
  rw [← h]
  have : l = 0 ∨ l = 1 ∨ l = 2 ∨ l = 3 := by omega
  rcases this with rfl | rfl | rfl | rfl <;> rfl
theorem level_in {v : Int} (h0 : 0 ≤ v) (h1 : v < 85) : (v < 1 ∧ level v = 0) ∨ (1 ≤ v ∧ v < 5 ∧ level v = 1) ∨ (5 ≤ v ∧ v < 21 ∧ level v = 2) ∨ (21 ≤ v ∧ level v = 3) := by
  unfold level
  rw [if_pos ⟨h0, h1⟩]
  by_cases h2 : v < 1
  · exact .inl ⟨h2, by rw [if_pos h2]⟩
  by_cases h3 : v < 5
  · exact .inr (.inl ⟨by omega, h3, by rw [if_neg h2, if_pos h3]⟩)
  by_cases h4 : v < 21
  · exact .inr (.inr (.inl ⟨by omega, h4, by rw [if_neg h2, if_neg h3, if_pos h4]⟩))
  · exact .inr (.inr (.inr ⟨by omega, by rw [if_neg h2, if_neg h3, if_neg h4]⟩))
theorem level_out {v : Int} (h : ¬ (0 ≤ v ∧ v < 85)) : level v = -1 := by unfold level; rw [if_neg h]
theorem eq_shape_Level : Eqs c_shape_Level g_shape_Level := Eqs.tot fun (v, _) _ => by
  change Int at v
  simp only [g_shape_Level]
  by_cases h1 : v < 0
  · rw [level_out (by omega)]; simp [h1]
  by_cases h2 : 85 ≤ v
  · rw [level_out (by omega)]; simp [h1, h2]
  simp only [h1, h2, decide_false, cond_false]
  have w3 : IntKind.i64.wrap (3 - 1) = 2 := by decide
  have w2 : IntKind.i64.wrap (2 - 1) = 1 := by decide
  have w1 : IntKind.i64.wrap (1 - 1) = 0 := by decide
  have down : ∀ l : Int, 0 ≤ l → l ≤ 3 → ¬ firstOf l ≤ v → lfp g_shape_Level_r1 ((v, l, ()), (), ()) = lfp g_shape_Level_r1 ((v, IntKind.i64.wrap (l - 1), ()), (), ()) := fun l g0 g3 g => lfp_inl (by
    simp [g_shape_Level_r1, g0, g3, g])
  have here : ∀ l : Int, 0 ≤ l → l ≤ 3 → firstOf l ≤ v → lfp g_shape_Level_r1 ((v, l, ()), (), ()) = some ((l, ()), (), ()) := fun l g0 g3 g => lfp_inr (by
    simp [g_shape_Level_r1, g0, g3, g])
  have e3 : firstOf 3 = 21 := rfl
  have e2 : firstOf 2 = 5 := rfl
  have e1 : firstOf 1 = 1 := rfl
  have e0 : firstOf 0 = 0 := rfl
  rcases level_in (v := v) (by omega) (by omega) with ⟨g, hl⟩ | ⟨g, g', hl⟩ | ⟨g, g', hl⟩ | ⟨g, hl⟩
  · rw [down 3 (by omega) (by omega) (by omega), w3, down 2 (by omega) (by omega) (by omega), w2, down 1 (by omega) (by omega) (by omega), w1, here 0 (by omega) (by omega) (by omega), hl]; rfl
  · rw [down 3 (by omega) (by omega) (by omega), w3, down 2 (by omega) (by omega) (by omega), w2, here 1 (by omega) (by omega) (by omega), hl]; rfl
  · rw [down 3 (by omega) (by omega) (by omega), w3, here 2 (by omega) (by omega) (by omega), hl]; rfl
  · rw [here 3 (by omega) (by omega) (by omega), hl]; rfl
theorem eq_shape_span : Eqs c_shape_span g_shape_span := fun (v, _) y _ h => by
  change Int at v
  simp only [guardK] at h
  have hv : node v = true := by
    cases hc : node v with
    | true => rfl
    | false => rw [hc] at h; cases h
  rw [hv] at h
  rw [← h]
  have hv := node_iff.1 hv
  have s0 : IntKind.i64.wrap (2 * IntKind.i64.wrap (3 - 0)) = 6 := by decide
  have s1 : IntKind.i64.wrap (2 * IntKind.i64.wrap (3 - 1)) = 4 := by decide
  have s2 : IntKind.i64.wrap (2 * IntKind.i64.wrap (3 - 2)) = 2 := by decide
  have s3 : IntKind.i64.wrap (2 * IntKind.i64.wrap (3 - 3)) = 0 := by decide
  have e3 : firstOf 3 = 21 := rfl
  have e2 : firstOf 2 = 5 := rfl
  have e1 : firstOf 1 = 1 := rfl
  have e0 : firstOf 0 = 0 := rfl
  have u3 : widthOf 3 = 1 := rfl
  have u2 : widthOf 2 = 4 := rfl
  have u1 : widthOf 1 = 16 := rfl
  have u0 : widthOf 0 = 64 := rfl
  have k0 : shlI IntKind.i64 1 6 = 64 := by decide
  have k1 : shlI IntKind.i64 1 4 = 16 := by decide
  have k2 : shlI IntKind.i64 1 2 = 4 := by decide
  have k3 : shlI IntKind.i64 1 0 = 1 := by decide
  have sh : ∀ (x : Int) (k : Nat), k ≤ 6 → -100 ≤ x → x ≤ 100 → shlI IntKind.i64 x (k : Int) = x * 2 ^ k := fun x k hk g0 g1 => by
    unfold shlI
    have : min (Int.toNat (k : Int)) IntKind.i64.bits = k := by simp [IntKind.bits]; omega
    rw [this]
    have : k = 0 ∨ k = 1 ∨ k = 2 ∨ k = 3 ∨ k = 4 ∨ k = 5 ∨ k = 6 := by omega
    rcases this with rfl | rfl | rfl | rfl | rfl | rfl | rfl <;> exact i64_in _ (by omega)
  simp only [g_shape_span, spanOf]
  rcases level_in hv.1 hv.2 with ⟨g, hl⟩ | ⟨g, g', hl⟩ | ⟨g, g', hl⟩ | ⟨g, hl⟩
  · rw [hl, s0, e0, u0, k0]
    simp
    rw [i64_in v (by omega)]
    have := sh v 6 (by omega) (by omega) (by omega)
    rw [show ((6 : Nat) : Int) = 6 from rfl] at this
    rw [this]; omega
  · rw [hl, s1, e1, u1, k1]
    simp
    rw [i64_in (v - 1) (by omega)]
    have := sh (v - 1) 4 (by omega) (by omega) (by omega)
    rw [show ((4 : Nat) : Int) = 4 from rfl] at this
    rw [this]; omega
  · rw [hl, s2, e2, u2, k2]
    simp
    rw [i64_in (v - 5) (by omega)]
    have := sh (v - 5) 2 (by omega) (by omega) (by omega)
    rw [show ((2 : Nat) : Int) = 2 from rfl] at this
    rw [this]; omega
  · rw [hl, s3, e3, u3, k3]
    simp
    rw [i64_in (v - 21) (by omega)]
    have := sh (v - 21) 0 (by omega) (by omega) (by omega)
    rw [show ((0 : Nat) : Int) = 0 from rfl] at this
    rw [this]; omega
def maskF (v : Int) : Int := shlI IntKind.u64 (shrI IntKind.u64 18446744073709551615 (IntKind.wrap IntKind.u64 (64 - IntKind.wrap IntKind.u64 (spanOf v).2))) (IntKind.wrap IntKind.u64 (spanOf v).1)
theorem mask_all : allN 85 (fun v => decide (maskF v = mask v)) = true := by decide +kernel
theorem word_false {p : Nat → Bool} : ∀ n : Nat, (∀ i, i < n → p i = false) → word p n = 0
  | 0, _ => rfl
  | n + 1, h => by simp only [word]; rw [word_false n (fun i hi => h i (by omega)), h n (by omega)]; rfl
theorem eq_shape_Mask : Eqs c_shape_Mask g_shape_Mask := Eqs.tot fun (v, _) _ => by
  change Int at v
  simp only [g_shape_Mask]
  by_cases h : 0 ≤ v ∧ v < 85
  · have hn : node v = true := node_iff.2 h
    have hl : ¬ level v < 0 := by
      rcases level_in h.1 h.2 with ⟨_, hl⟩ | ⟨_, _, hl⟩ | ⟨_, _, hl⟩ | ⟨_, hl⟩ <;> omega
    simp only [hl, hn, decide_false, cond_false, cond_true, Option.bind_some]
    have := allN_iff.1 mask_all v.toNat (by omega)
    simp only [decide_eq_true_eq] at this
    rw [Int.toNat_of_nonneg h.1] at this
    rw [← this]; rfl
  · have hl := level_out h
    have hn : node v = false := Bool.eq_false_iff.2 fun hn => h (node_iff.1 hn)
    have : mask v = 0 := by
      unfold mask
      rw [word_false 64 fun i _ => by simp [below, hn]]; rfl
    simp [hl, this]
end Go.Co.N
