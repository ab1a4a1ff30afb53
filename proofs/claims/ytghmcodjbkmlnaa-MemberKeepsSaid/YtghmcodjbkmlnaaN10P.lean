/-
  The functions of keys and of the ratchet answer what they are to answer; the laws of chapter 10.
  Own text, for the claims about coterie. No program in sight.
-/
import Derived.Test.YtghmcodjbkmlnaaN10G
namespace Go.Co.N
open Go Go.Co

/-! ### Keys -/
theorem eq_key_Good : Eqs c_key_Good g_key_Good := Eqs.tot fun (k, _) _ => by
  have : decide (0 < k.Base) = decide (1 ≤ k.Base) := by congr 1
  simp only [g_key_Good, good, this]
  cases decide (1 ≤ k.Base) <;> cases decide (k.Base ≤ 65535) <;> cases decide (0 ≤ k.Step) <;> rfl
theorem eq_ref02_Good : Eqs c_ref02_Good g_ref02_Good := Eqs.tot fun (k, _) _ => by
  simp only [g_ref02_Good, good]
  cases decide (1 ≤ k.Base) <;> cases decide (k.Base ≤ 65535) <;> cases decide (0 ≤ k.Step) <;> rfl
theorem eq_key_Ahead : Eqs c_key_Ahead g_key_Ahead := Eqs.tot fun (k, n, _) _ => by
  change Int at n
  simp only [g_key_Ahead, ahead]
  cases hg : good k with
  | false => simp
  | true =>
    have hg' := good_iff.1 hg
    simp only [Bool.not_true, cond_false, if_true]
    rw [i64_in _ (by omega)]
    by_cases hn : n < 0
    · rw [if_neg (by omega)]; simp [hn]
    · by_cases hn2 : 255 - k.Step < n
      · rw [if_neg (by omega)]; simp [hn, hn2]
      · rw [if_pos (by omega), i64_in _ (by omega)]; simp [hn, hn2]
theorem eq_ref02_Ahead : Eqs c_ref02_Ahead g_ref02_Ahead := Eqs.tot fun (k, n, _) _ => by
  change Int at n
  simp only [g_ref02_Ahead, ahead]
  cases hg : good k with
  | false => simp
  | true =>
    have hg' := good_iff.1 hg
    simp only [Bool.not_true, cond_false, if_true]
    by_cases hn : n < 0
    · rw [if_neg (by omega)]; simp [hn]
    · by_cases hn2 : 255 < n
      · rw [if_neg (by omega)]; simp [hn, hn2]
      · simp only [hn, hn2, decide_false, cond_false]
        rw [lfp_run' (fun i => ((n, (), (), (i : Int), ()), (⟨k.Base, k.Step + i⟩, St.key.zero, ()), ())) n.toNat (by simp) fun i hi => by
          have h1 : (i : Int) < n := by omega
          simp only [g_ref02_Ahead_r1, h1, decide_true, cond_true]
          rw [i64_in _ (by omega), i64_in _ (by omega), Int.add_assoc]; rfl]
        have hnn : ((n.toNat : Nat) : Int) = n := by omega
        rw [lfp_inr (z := (((), (), ()), (⟨k.Base, k.Step + n⟩, St.key.zero, ()), ())) (by simp [g_ref02_Ahead_r1, hnn])]
        simp only [Option.bind_some]
        by_cases hs : k.Step + n ≤ 255
        · have : good ⟨k.Base, k.Step + n⟩ = true := good_iff.2 ⟨hg'.1, hg'.2.1, by simp only; omega, hs⟩
          rw [if_pos ⟨by omega, hs⟩, this]; simp
        · have : good ⟨k.Base, k.Step + n⟩ = false := by
            cases hq : good ⟨k.Base, k.Step + n⟩ with
            | false => rfl
            | true => have := good_iff.1 hq; simp only at this; omega
          rw [if_neg (fun h => hs h.2), this]; simp
theorem eq_ref02_Gives : Eqs c_ref02_Gives g_ref02_Gives := Eqs.tot fun (a, b, _) _ => by
  simp only [g_ref02_Gives, gives]
  cases good a <;> cases good b <;> cases decide (a.Base = b.Base) <;> rfl

/-! ### Masks -/
theorem eq_ref01_In : Eqs c_ref01_In g_ref01_In := Eqs.tot fun (m, v, _) hf => by
  change Int at m v
  have hm := fine_u32.1 hf.1
  simp only [g_ref01_In, inB]
  by_cases g1 : v < 0
  · have : ¬ 0 ≤ v := by omega
    simp [g1, this]
  by_cases g2 : 32 ≤ v
  · have : ¬ v < 32 := by omega
    simp [g1, g2, this]
  have g3 : 0 ≤ v := by omega
  have g4 : v < 32 := by omega
  have hle : ∀ i : Nat, 0 ≤ m / 2 ^ i ∧ m / 2 ^ i ≤ 4294967295 := fun i => ⟨Int.ediv_nonneg hm.1 (Int.pow_nonneg (by omega)), Int.le_trans (Int.ediv_le_self _ hm.1) hm.2⟩
  simp only [g1, g2, g3, g4, decide_false, decide_true, cond_false, Bool.true_and]
  rw [lfp_run' (fun i => ((m / 2 ^ i, v, (i : Int), ()), (), ())) v.toNat (by simp) fun i hi => by
    have h1 : (i : Int) < v := by omega
    have := hle i
    simp only [g_ref01_In_r1, h1, decide_true, cond_true]
    rw [Int.tdiv_eq_ediv_of_nonneg this.1, Go.IntWalk.u32_in _ (by omega), i64_in _ (by omega), Int.pow_succ, Int.ediv_ediv_of_nonneg (Int.pow_nonneg (by omega))]; rfl]
  have hnn : ((v.toNat : Nat) : Int) = v := by omega
  rw [lfp_inr (z := ((m / 2 ^ v.toNat, ()), (), ())) (by simp [g_ref01_In_r1, hnn])]
  simp only [Option.bind_some]
  rw [Int.tmod_eq_emod_of_nonneg (hle _).1]
theorem cntTo_le (m : Int) : ∀ n : Nat, 0 ≤ cntTo m n ∧ cntTo m n ≤ n
  | 0 => by simp [cntTo]
  | n + 1 => by
    have := cntTo_le m n
    simp only [cntTo]
    split <;> omega
theorem cntTo_mono (m : Int) {a b : Nat} (h : a ≤ b) : cntTo m a ≤ cntTo m b ∧ cntTo m b ≤ cntTo m a + (b - a : Nat) := by
  obtain ⟨d, rfl⟩ := Nat.exists_eq_add_of_le h
  induction d with
  | zero => simp
  | succ d ih =>
    have := ih (by omega)
    rw [show a + (d + 1) = (a + d) + 1 by omega]
    simp only [cntTo]
    split <;> omega
theorem eq_ref10_count : Eqs c_ref10_count g_ref10_count := Eqs.tot fun (m, _) _ => by
  change Int at m
  simp only [g_ref10_count]
  rw [lfp_run' (fun i => ((m, cntTo m i, (i : Int), ()), (), ())) 21 (by simp [cntTo]) fun i hi => by
    have h1 : (i : Int) < 21 := by omega
    have := cntTo_le m i
    simp only [g_ref10_count_r1, h1, decide_true, cond_true, cntTo]
    cases inB m i <;> simp <;> rw [i64_in _ (by omega)] <;> (try (rw [i64_in _ (by omega)]; exact ⟨rfl, rfl⟩))]
  rw [lfp_inr (z := ((cntTo m 21, ()), (), ())) (by simp [g_ref10_count_r1])]
  simp

/-! ### Bits -/
theorem bw_and_nat (n m : Nat) (hn : n < 4294967296) (hm : m < 4294967296) : bw .and .u32 (n : Int) (m : Int) = ((n &&& m : Nat) : Int) := by
  have e1 : BitVec.ofInt IntKind.u32.bits (n : Int) = BitVec.ofNat 32 n := by simp [IntKind.bits]
  have e2 : BitVec.ofInt IntKind.u32.bits (m : Int) = BitVec.ofNat 32 m := by simp [IntKind.bits]
  have hle : n &&& m ≤ n := Nat.and_le_left
  unfold bw
  simp only [e1, e2]
  have e3 : (BitVec.ofNat 32 n &&& BitVec.ofNat 32 m).toNat = n &&& m := by
    simp [BitVec.toNat_and, Nat.mod_eq_of_lt hn, Nat.mod_eq_of_lt hm]
  show IntKind.u32.wrap (((BitVec.ofNat 32 n &&& BitVec.ofNat 32 m).toNat : Nat) : Int) = _
  rw [e3, Go.IntWalk.u32_in _ (by omega)]
theorem bw_and_one (x : Int) (h0 : 0 ≤ x) (h1 : x ≤ 4294967295) : bw .and .u32 x 1 = x % 2 := by
  obtain ⟨n, rfl⟩ := Int.eq_ofNat_of_zero_le h0
  have := bw_and_nat n 1 (by omega) (by omega)
  rw [show ((1 : Nat) : Int) = 1 from rfl] at this
  rw [this, Nat.and_one_is_mod]; omega
theorem shr_u32 (x : Int) (v : Int) (hv : 0 ≤ v) (hv2 : v < 32) : shrI .u32 x v = x / 2 ^ v.toNat := by
  unfold shrI
  have : min v.toNat IntKind.u32.bits = v.toNat := by simp [IntKind.bits]; omega
  rw [this, Int.fdiv_eq_ediv_of_nonneg _ (Int.pow_nonneg (by omega))]
/-- The bit that the program asks for is the node's. -/
theorem bit_in (m v : Int) (h0 : 0 ≤ m) (h1 : m ≤ 4294967295) (hv : 0 ≤ v) (hv2 : v < 32) : decide (bw .and .u32 (shrI .u32 m v) 1 = 1) = inB m v := by
  rw [shr_u32 m v hv hv2]
  have hn : 0 ≤ m / 2 ^ v.toNat := Int.ediv_nonneg h0 (Int.pow_nonneg (by omega))
  have hle : m / 2 ^ v.toNat ≤ m := Int.ediv_le_self _ h0
  rw [bw_and_one _ hn (by omega)]
  simp [inB, hv, hv2]
theorem bit_in' (m v : Int) (h0 : 0 ≤ m) (h1 : m ≤ 4294967295) (hv : 0 ≤ v) (hv2 : v < 32) : decide (bw .and .u32 (shrI .u32 m (IntKind.wrap .u64 v)) 1 = 1) = inB m v := by
  rw [Go.IntWalk.u64_in _ (by omega)]; exact bit_in m v h0 h1 hv hv2
theorem inB_big {m v : Int} (h0 : 0 ≤ m) {k : Nat} (hk : m < 2 ^ k) (hv : (k : Int) ≤ v) : inB m v = false := by
  unfold inB
  have : m / 2 ^ v.toNat = 0 := by
    refine Int.ediv_eq_zero_of_lt h0 (Int.lt_of_lt_of_le hk ?_)
    obtain ⟨d, hd⟩ := Nat.exists_eq_add_of_le (show k ≤ v.toNat by omega)
    rw [hd, Int.pow_add]
    have h1 : (1 : Int) ≤ 2 ^ d := Int.pow_pos (by omega)
    have h2 : (0 : Int) < 2 ^ k := Int.pow_pos (by omega)
    have := Int.mul_le_mul_of_nonneg_left h1 (Int.le_of_lt h2)
    omega
  simp [this]
theorem cntTo_small {m : Int} (h0 : 0 ≤ m) {k : Nat} (hk : m < 2 ^ k) : ∀ d, cntTo m (k + d) = cntTo m k
  | 0 => rfl
  | d + 1 => by
    rw [show k + (d + 1) = (k + d) + 1 by omega]
    simp only [cntTo]
    rw [inB_big h0 hk (by omega), cntTo_small h0 hk d]; simp
def bits : Nat → Nat → Nat
  | 0, _ => 0
  | d + 1, n => n % 2 + bits d (n / 2)
theorem bits_le : ∀ (d n : Nat), bits d n ≤ d
  | 0, _ => by simp [bits]
  | d + 1, n => by have := bits_le d (n / 2); simp only [bits]; omega
theorem bits_add : ∀ (a b n : Nat), bits (a + b) n = bits a n + bits b (n / 2 ^ a)
  | 0, b, n => by simp [bits]
  | a + 1, b, n => by
    rw [show a + 1 + b = (a + b) + 1 by omega]
    simp only [bits]
    rw [bits_add a b (n / 2), Nat.div_div_eq_div_mul, show 2 * 2 ^ a = 2 ^ (a + 1) by rw [Nat.pow_succ]; omega]
    omega
theorem bits_mod : ∀ (d n : Nat), bits d (n % 2 ^ d) = bits d n
  | 0, n => by simp [bits]
  | d + 1, n => by
    simp only [bits]
    have e1 : n % 2 ^ (d + 1) % 2 = n % 2 := by rw [Nat.pow_succ, Nat.mul_comm]; exact Nat.mod_mul_right_mod n 2 (2 ^ d)
    have e2 : n % 2 ^ (d + 1) / 2 = n / 2 % 2 ^ d := by rw [Nat.pow_succ, Nat.mul_comm]; exact Nat.mod_mul_right_div_self n 2 (2 ^ d)
    rw [e1, e2, bits_mod d (n / 2)]
theorem bits_cnt (n : Nat) : ∀ d : Nat, d ≤ 32 → (bits d n : Int) = cntTo (n : Int) d
  | 0, _ => rfl
  | d + 1, h => by
    rw [bits_add d 1 n, cntTo, ← bits_cnt n d (by omega)]
    have hb : inB (n : Int) (d : Int) = decide (n / 2 ^ d % 2 = 1) := by
      unfold inB
      have h1 : (0 : Int) ≤ (d : Int) := by omega
      have h2 : (d : Int) < 32 := by omega
      simp only [h1, h2, decide_true, Bool.true_and, Int.toNat_natCast]
      congr 1
      rw [show ((n : Int) / 2 ^ d) = ((n / 2 ^ d : Nat) : Int) by simp]
      simp only [eq_iff_iff]
      omega
    rw [hb]
    simp only [bits]
    by_cases hc : n / 2 ^ d % 2 = 1
    · simp [hc]
    · have : n / 2 ^ d % 2 = 0 := by omega
      simp [this]
theorem and_255 (n : Nat) (hn : n < 4294967296) : bw .and .u32 (n : Int) 255 = ((n % 2 ^ 8 : Nat) : Int) := by
  have := bw_and_nat n 255 hn (by omega)
  rw [show ((255 : Nat) : Int) = 255 from rfl] at this
  rw [this, show (255 : Nat) = 2 ^ 8 - 1 from rfl, Nat.and_two_pow_sub_one_eq_mod]
theorem shr_nat (n v : Nat) (hv : v < 32) : shrI .u32 (n : Int) (v : Int) = ((n / 2 ^ v : Nat) : Int) := by
  rw [shr_u32 _ _ (by omega) (by omega)]
  simp
def tab8 : ByteArray := bytesOf ((List.range 256).map (bits 8))
theorem bat_tab (n : Nat) (hn : n < 256) : bat tab8 (n : Int) = (bits 8 n : Int) := by
  have hb := bits_le 8 n
  unfold bat tab8 bytesOf
  simp [hn]
  omega
set_option maxRecDepth 100000 in
theorem eq_bits_OnesCount32 : Eqs c_bits_OnesCount32 g_bits_OnesCount32 := Eqs.tot fun (x, _) hf => by
  change Int at x
  have hx := fine_u32.1 hf.1
  obtain ⟨n, rfl⟩ := Int.eq_ofNat_of_zero_le hx.1
  have hn : n < 4294967296 := by omega
  rw [g_bits_OnesCount32]
  generalize ht : bytesOf _ = tab
  have htab : tab = tab8 := by rw [← ht]; rfl
  subst htab
  show _ = some (cntTo (n : Int) 32, ())
  rw [← bits_cnt n 32 (by omega)]
  have s24 : shrI .u32 (n : Int) 24 = ((n / 2 ^ 24 : Nat) : Int) := shr_nat n 24 (by omega)
  have s16 : shrI .u32 (n : Int) 16 = ((n / 2 ^ 16 : Nat) : Int) := shr_nat n 16 (by omega)
  have s8 : shrI .u32 (n : Int) 8 = ((n / 2 ^ 8 : Nat) : Int) := shr_nat n 8 (by omega)
  have h24 : n / 2 ^ 24 < 256 := by omega
  have h16 : n / 2 ^ 16 < 4294967296 := by omega
  have h8 : n / 2 ^ 8 < 4294967296 := by omega
  have m16 : n / 2 ^ 16 % 2 ^ 8 < 256 := Nat.mod_lt _ (by omega)
  have m8 : n / 2 ^ 8 % 2 ^ 8 < 256 := Nat.mod_lt _ (by omega)
  have m0 : n % 2 ^ 8 < 256 := Nat.mod_lt _ (by omega)
  have hsum : bits 32 n = bits 8 n + (bits 8 (n / 2 ^ 8) + (bits 8 (n / 2 ^ 16) + bits 8 (n / 2 ^ 24))) := by
    rw [show 32 = 8 + (8 + (8 + 8)) from rfl, bits_add, bits_add, bits_add, Nat.div_div_eq_div_mul, Nat.div_div_eq_div_mul]
  have b0 := bits_le 8 n
  have b1 := bits_le 8 (n / 2 ^ 8)
  have b2 := bits_le 8 (n / 2 ^ 16)
  have b3 := bits_le 8 (n / 2 ^ 24)
  rw [s24, s16, s8, and_255 _ h16, and_255 _ h8, and_255 _ hn, bat_tab _ h24, bat_tab _ m16, bat_tab _ m8, bat_tab _ m0, bits_mod, bits_mod, bits_mod]
  rw [Go.IntWalk.u8_in ((bits 8 (n / 2 ^ 24) : Int) + (bits 8 (n / 2 ^ 16) : Int)) (by omega), Go.IntWalk.u8_in ((bits 8 (n / 2 ^ 24) : Int) + (bits 8 (n / 2 ^ 16) : Int) + (bits 8 (n / 2 ^ 8) : Int)) (by omega),
    Go.IntWalk.u8_in ((bits 8 (n / 2 ^ 24) : Int) + (bits 8 (n / 2 ^ 16) : Int) + (bits 8 (n / 2 ^ 8) : Int) + (bits 8 n : Int)) (by omega), i64_in _ (by omega), hsum]
  have k1 : decide ((0 : Int) ≤ ((n / 2 ^ 24 : Nat) : Int)) = true := decide_eq_true (by omega)
  have k2 : decide (((n / 2 ^ 24 : Nat) : Int) < 256) = true := decide_eq_true (by omega)
  have k3 : decide ((0 : Int) ≤ ((n / 2 ^ 16 % 2 ^ 8 : Nat) : Int)) = true := decide_eq_true (by omega)
  have k4 : decide (((n / 2 ^ 16 % 2 ^ 8 : Nat) : Int) < 256) = true := decide_eq_true (by omega)
  have k5 : decide ((0 : Int) ≤ ((n / 2 ^ 8 % 2 ^ 8 : Nat) : Int)) = true := decide_eq_true (by omega)
  have k6 : decide (((n / 2 ^ 8 % 2 ^ 8 : Nat) : Int) < 256) = true := decide_eq_true (by omega)
  have k7 : decide ((0 : Int) ≤ ((n % 2 ^ 8 : Nat) : Int)) = true := decide_eq_true (by omega)
  have k8 : decide (((n % 2 ^ 8 : Nat) : Int) < 256) = true := decide_eq_true (by omega)
  rw [k1, k2, k3, k4, k5, k6, k7, k8]
  simp only [Bool.and_self, cond_true, Option.some.injEq, Prod.mk.injEq, and_true]
  omega

/-! ### The ratchet's check -/
theorem mget_cons {α β : Type} [DecidableEq α] (e : α × β) (l : List (α × β)) (k : α) : mget (e :: l) k = if e.1 = k then some e.2 else mget l k := by
  unfold mget
  by_cases h : e.1 = k <;> simp [h]
theorem mget_mput {α β : Type} [DecidableEq α] (a : α) (b : β) (c : α) : ∀ l : List (α × β), mget (mput l a b) c = if a = c then some b else mget l c
  | [] => by simp only [mput]; rw [mget_cons]
  | e :: l => by
    simp only [mput]
    by_cases h : e.1 = a
    · rw [if_pos h, mget_cons, mget_cons]
      by_cases hc : a = c
      · simp [hc]
      · have : ¬ e.1 = c := by rw [h]; exact hc
        simp [hc, this]
    · rw [if_neg h, mget_cons, mget_mput a b c l, mget_cons]
      by_cases hc : a = c
      · subst hc; simp [h]
      · simp [hc]
/-- A map that counts, behind i places. -/
def cmap (g : Nat → Int) : Nat → List (Int × Int)
  | 0 => []
  | i + 1 => mput (cmap g i) (g i) ((mget (cmap g i) (g i)).getD 0 + 1)
theorem cmap_get (g : Nat → Int) (b : Int) : ∀ i, 0 ≤ (mget (cmap g i) b).getD 0 ∧ (mget (cmap g i) b).getD 0 ≤ i ∧ ((mget (cmap g i) b).getD 0 = 0 ↔ ∀ j, j < i → g j ≠ b)
  | 0 => by simp [cmap, mget]
  | i + 1 => by
    obtain ⟨h1, h2, h3⟩ := cmap_get g b i
    simp only [cmap]
    rw [mget_mput]
    by_cases hb : g i = b
    · rw [if_pos hb, hb]
      simp only [Option.getD_some]
      refine ⟨by omega, by omega, ⟨fun h => by omega, fun h => absurd hb (h i (by omega))⟩⟩
    · simp only [if_neg hb]
      refine ⟨h1, by omega, h3.trans ⟨fun h j hj => ?_, fun h j hj => h j (by omega)⟩⟩
      by_cases he : j = i
      · subst he; exact hb
      · exact h j (by omega)
theorem cmap_succ (g : Nat → Int) (i : Nat) (h : i < 1000000) : mput (cmap g i) (g i) (IntKind.i64.wrap ((mget (cmap g i) (g i)).getD 0 + 1)) = cmap g (i + 1) := by
  have := cmap_get g (g i) i
  rw [i64_in _ (by omega)]; rfl
theorem cmap_twice (g : Nat → Int) (i : Nat) : (1 < (mget (cmap g (i + 1)) (g i)).getD 0) ↔ ¬ ∀ j, j < i → g j ≠ g i := by
  have := cmap_get g (g i) i
  simp only [cmap]
  rw [mget_mput, if_pos rfl]
  simp only [Option.getD_some]
  rw [← this.2.2]
  omega
theorem eq_ratchet_Check : Eqs c_ratchet_Check g_ratchet_Check := Eqs.tot fun (k, _) _ => by
  simp only [g_ratchet_Check]
  rw [lfp_all' (fun i => (((), k, (i : Int), ()), (), cmap (fun j => bas k j) i, ())) 21 (okAt k) (.inl ((31, ()), (), ())) (.inr ((), (), ())) (by rfl)
    (fun i hi hok => by
      have h1 : (i : Int) < 21 := by omega
      obtain ⟨hg, hb, hn⟩ := okAt_iff.1 hok
      have hb' : ¬ 32768 ≤ (Arr.get k i).Base := by have : (Arr.get k i).Base < 32768 := hb; omega
      have hc := cmap_succ (fun j => bas k j) i (by omega)
      have ht : ¬ 1 < (mget (cmap (fun j => bas k j) (i + 1)) (bas k i)).getD 0 := fun h => (cmap_twice (fun j => bas k j) i).1 h hn
      simp only [g_ratchet_Check_r1, h1, decide_true, cond_true, Int.natCast_nonneg, Bool.and_self, hg, Bool.not_true, cond_false, hb', decide_false]
      simp only [bas] at hc ht ⊢
      rw [hc]
      simp only [ht, decide_false, cond_false, wrap1 i (by omega)])
    (fun i hi hok => by
      have h1 : (i : Int) < 21 := by omega
      have hc := cmap_succ (fun j => bas k j) i (by omega)
      simp only [g_ratchet_Check_r1, h1, decide_true, cond_true, Int.natCast_nonneg, Bool.and_self]
      cases hg : good (Arr.get k i) with
      | false => simp
      | true =>
        simp only [Bool.not_true, cond_false]
        by_cases hb : 32768 ≤ (Arr.get k i).Base
        · simp [hb]
        · have ht : 1 < (mget (cmap (fun j => bas k j) (i + 1)) (bas k i)).getD 0 := (cmap_twice (fun j => bas k j) i).2 fun hn => by
            have : okAt k i = true := okAt_iff.2 ⟨hg, by show (Arr.get k i).Base < 32768; omega, hn⟩
            rw [this] at hok; cases hok
          simp only [hb, decide_false, cond_false]
          simp only [bas] at hc ht ⊢
          rw [hc]
          simp only [ht, decide_true, cond_true])
    (by simp [g_ratchet_Check_r1])]
  simp only [Option.bind_some, chk, goodKeys]
  cases allN 21 (okAt k) <;> rfl
theorem eq_ref10_Check : Eqs c_ref10_Check g_ref10_Check := Eqs.tot fun (k, _) _ => by
  simp only [g_ref10_Check]
  have inner : ∀ v : Nat, v < 21 → lfp g_ref10_Check_r2 (((), (v : Int), 0, ()), (k, ()), ()) = some (bif allN v (fun w => !decide (bas k w = bas k v)) then .inr (((), (v : Int), ()), (k, ()), ()) else .inl ((31, ()), (), ())) := fun v hv =>
    lfp_all' (fun i => (((), (v : Int), (i : Int), ()), (k, ()), ())) v (fun w => !decide (bas k w = bas k v)) _ _ rfl
      (fun i hi hok => by
        have h1 : (i : Int) < v := by omega
        have h2 : (v : Int) < 21 := by omega
        have hok : ¬ (Arr.get k i).Base = (Arr.get k v).Base := by simpa using hok
        simp only [g_ref10_Check_r2, h1, decide_true, cond_true, (show (i : Int) < 21 by omega), Int.natCast_nonneg, Bool.and_self, h2, hok, decide_false, cond_false, wrap1 i (by omega)])
      (fun i hi hok => by
        have h1 : (i : Int) < v := by omega
        have h2 : (v : Int) < 21 := by omega
        have hok : (Arr.get k i).Base = (Arr.get k v).Base := by simpa using hok
        simp only [g_ref10_Check_r2, h1, decide_true, cond_true, (show (i : Int) < 21 by omega), Int.natCast_nonneg, Bool.and_self, h2, hok])
      (by simp [g_ref10_Check_r2])
  rw [lfp_all' (fun i => (((), (i : Int), ()), (k, ()), ())) 21 (okAt k) (.inl ((31, ()), (), ())) (.inr ((), (), ())) (by rfl)
    (fun i hi hok => by
      have h1 : (i : Int) < 21 := by omega
      have hin := inner i hi
      obtain ⟨hg, hb, hn⟩ := okAt_iff.1 hok
      have hb' : ¬ 32768 ≤ (Arr.get k i).Base := by have : (Arr.get k i).Base < 32768 := hb; omega
      rw [(allN_iff.2 fun j hj => by simpa using hn j hj : allN i (fun w => !decide (bas k w = bas k i)) = true)] at hin
      simp only [g_ref10_Check_r1, h1, decide_true, cond_true, Int.natCast_nonneg, Bool.and_self, hg, Bool.not_true, cond_false, hb', decide_false, hin, Option.bind_some, Sum.elim_inr, wrap1 i (by omega)])
    (fun i hi hok => by
      have h1 : (i : Int) < 21 := by omega
      have hin := inner i hi
      simp only [g_ref10_Check_r1, h1, decide_true, cond_true, Int.natCast_nonneg, Bool.and_self]
      cases hg : good (Arr.get k i) with
      | false => simp
      | true =>
        simp only [Bool.not_true, cond_false]
        by_cases hb : 32768 ≤ (Arr.get k i).Base
        · simp [hb]
        · have hfa : allN i (fun w => !decide (bas k w = bas k i)) = false := Bool.eq_false_iff.2 fun hn => by
            have : okAt k i = true := okAt_iff.2 ⟨hg, by show (Arr.get k i).Base < 32768; omega, fun w hw => by simpa using allN_iff.1 hn w hw⟩
            rw [this] at hok; cases hok
          rw [hfa] at hin
          simp only [hb, decide_false, cond_false, hin, Option.bind_some, Sum.elim_inl])
    (by simp [g_ref10_Check_r1])]
  simp only [Option.bind_some, chk, goodKeys]
  cases allN 21 (okAt k) <;> rfl
theorem free_at (k : Keys) (f n : Int) (h1 : 1 ≤ f) (h2 : f ≤ 32768 - n) (h3 : 0 ≤ n) : IntKind.i64.wrap (f + n) = f + n := i64_in _ (by omega)
theorem eq_ratchet_free : Eqs c_ratchet_free g_ratchet_free := fun (k, f, n, _) y hf h => by
  change Int at f n
  simp only [guardK] at h
  have hn : 0 ≤ n ∧ n ≤ 32 := by
    cases hc : (decide (0 ≤ n) && decide (n ≤ 32)) with
    | true => simpa using hc
    | false => rw [hc] at h; cases h
  have hc : (decide (0 ≤ n) && decide (n ≤ 32)) = true := by simpa using hn
  rw [hc] at h
  simp only [cond_true] at h
  rw [← h]
  simp only [g_ratchet_free, free]
  rw [i64_in (32768 - n) (by omega)]
  by_cases g0 : n = 0
  · simp [g0]
  by_cases g1 : f < 1
  · have : ¬ 1 ≤ f := by omega
    simp [g0, g1, this]
  by_cases g2 : 32768 - n < f
  · have : ¬ f ≤ 32768 - n := by omega
    simp [g0, g1, g2, this]
  have g3 : 1 ≤ f := by omega
  have g4 : f ≤ 32768 - n := by omega
  simp only [g0, g1, g2, g3, g4, decide_false, decide_true, cond_false, Bool.false_or, Bool.true_and]
  rw [lfp_all' (fun i => ((f, n, k, (i : Int), ()), (), ())) 21 (fun v => !(decide (f ≤ bas k v) && decide (bas k v < f + n))) (.inl ((false, ()), (), ())) (.inr ((), (), ())) (by rfl)
    (fun i hi hok => by
      have h1 : (i : Int) < 21 := by omega
      simp only [g_ratchet_free_r1, h1, decide_true, cond_true, Int.natCast_nonneg, Bool.and_self, free_at k f n g3 g4 hn.1, wrap1 i (by omega)]
      by_cases a1 : f ≤ (Arr.get k i).Base
      · have a2 : ¬ (Arr.get k i).Base < f + n := by simp [bas, a1] at hok; omega
        simp [a1, a2]
      · simp [a1])
    (fun i hi hok => by
      have h1 : (i : Int) < 21 := by omega
      have hok : f ≤ (Arr.get k i).Base ∧ (Arr.get k i).Base < f + n := by simpa [bas] using hok
      simp only [g_ratchet_free_r1, h1, decide_true, cond_true, Int.natCast_nonneg, Bool.and_self, free_at k f n g3 g4 hn.1, hok.1, hok.2])
    (by simp [g_ratchet_free_r1])]
  simp only [Option.bind_some]
  cases allN 21 (fun v => !(decide (f ≤ bas k v) && decide (bas k v < f + n))) <;> rfl
end Go.Co.N
