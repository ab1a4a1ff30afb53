/-
  The functions of keys and of the ratchet answer what they are to answer; the laws of chapter 10.
  Turns, leaves' keys, paths; the laws of chapter 10.
  The laws of chapter 10.
  Shapes and rosters: the functions answer what they are to answer.
  Rosters and trees: the functions answer what they are to answer.
  Trees: the functions answer what they are to answer.
  Sets of slots, who may move: the reference's functions answer what they are to answer.
  Moves: the reference's function answers what it is to answer.
  Steps and their messages: the reference's functions answer what they are to answer.
  Words as sets of slots: the lowest bit, the word without it, the table that tells its place.
  What the functions of sets, rosters' batches and plans are to answer.
  What each function computes, printed by a program of my own (wip/tool) out of its run.
  What each function computes, printed by a program of my own (wip/tool) out of its run.
  What a step of the server does, told seat by seat and node by node; the new tree is right.
  Members, messages' parts, sealed texts: the functions answer what they are to answer; laws of chapter 17.
  Sealed texts; laws of chapter 17.
  Members: the functions answer what they are to answer.
  Members: what a message does to a device's state.
  What a step's message holds, and what it does to who stays, who joined, who left.
  What each function computes, printed by a program of my own (wip/tool) out of its run.
  Who stands at another tree of a row doesn't open it: DataApart.
  Members: the laws of chapter 15.
  Members: messages of a row of steps, in any order.
  Recovery: the functions answer what they are to answer.
  Recovery: the laws of chapter 16.
  No conditions. Own text, for the claims about coterie.
-/
import Derived.Test.YtghlolinkmlkeaaGreatDoorPartC

section
namespace Go.Co.N
open Go Go.Co

/-! ### Keys -/
theorem eq_key_Good : Eqs c_key_Good g_key_Good := Eqs.tot fun (k, _) _ => by
  have : decide (0 < k.Base) = decide (1 ≤ k.Base) := by congr 1
  simp only [g_key_Good, good, this]
  cases decide (1 ≤ k.Base) <;> cases decide (k.Base ≤ 65535) <;> cases decide (0 ≤ k.Step) <;> rfl
theorem eq_ref02_Good : Eqs c_ref02_Good g_ref02_Good := Eqs.tot fun (k, _) _ => by
  simp only [g_ref02_Good, good]
  cases decide (1 ≤ k.Base) <;> cases decide (k.Base ≤ 65535) <;> cases decide (0 ≤ k.Step) <;> rfl
theorem eq_key_Ahead : Eqs c_key_Ahead g_key_Ahead := Eqs.tot fun (k, n, _) _ => by
  change Int at n
  simp only [g_key_Ahead, ahead]
  cases hg : good k with
  | false => simp
  | true =>
    have hg' := good_iff.1 hg
    simp only [Bool.not_true, cond_false, if_true]
    rw [i64_in _ (by omega)]
    by_cases hn : n < 0
    · rw [if_neg (by omega)]; simp [hn]
    · by_cases hn2 : 255 - k.Step < n
      · rw [if_neg (by omega)]; simp [hn, hn2]
      · rw [if_pos (by omega), i64_in _ (by omega)]; simp [hn, hn2]
theorem eq_ref02_Ahead : Eqs c_ref02_Ahead g_ref02_Ahead := Eqs.tot fun (k, n, _) _ => by
  change Int at n
  simp only [g_ref02_Ahead, ahead]
  cases hg : good k with
  | false => simp
  | true =>
    have hg' := good_iff.1 hg
    simp only [Bool.not_true, cond_false, if_true]
    by_cases hn : n < 0
    · rw [if_neg (by omega)]; simp [hn]
    · by_cases hn2 : 255 < n
      · rw [if_neg (by omega)]; simp [hn, hn2]
      · simp only [hn, hn2, decide_false, cond_false]
        rw [lfp_run' (fun i => ((n, (), (), (i : Int), ()), (⟨k.Base, k.Step + i⟩, St.key.zero, ()), ())) n.toNat (by simp) fun i hi => by
          have h1 : (i : Int) < n := by omega
          simp only [g_ref02_Ahead_r1, h1, decide_true, cond_true]
          rw [i64_in _ (by omega), i64_in _ (by omega), Int.add_assoc]; rfl]
        have hnn : ((n.toNat : Nat) : Int) = n := by omega
        rw [lfp_inr (z := (((), (), ()), (⟨k.Base, k.Step + n⟩, St.key.zero, ()), ())) (by simp [g_ref02_Ahead_r1, hnn])]
        simp only [Option.bind_some]
        by_cases hs : k.Step + n ≤ 255
        · have : good ⟨k.Base, k.Step + n⟩ = true := good_iff.2 ⟨hg'.1, hg'.2.1, by simp only; omega, hs⟩
          rw [if_pos ⟨by omega, hs⟩, this]; simp
        · have : good ⟨k.Base, k.Step + n⟩ = false := by
            cases hq : good ⟨k.Base, k.Step + n⟩ with
            | false => rfl
            | true => have := good_iff.1 hq; simp only at this; omega
          rw [if_neg (fun h => hs h.2), this]; simp
/-! ### Masks -/
theorem eq_ref01_In : Eqs c_ref01_In g_ref01_In := Eqs.tot fun (m, v, _) hf => by
  change Int at m v
  have hm := fine_u32.1 hf.1
  simp only [g_ref01_In, inB]
  by_cases g1 : v < 0
  · have : ¬ 0 ≤ v := by omega
    simp [g1, this]
  by_cases g2 : 32 ≤ v
  · have : ¬ v < 32 := by omega
    simp [g1, g2, this]
  have g3 : 0 ≤ v := by omega
  have g4 : v < 32 := by omega
  have hle : ∀ i : Nat, 0 ≤ m / 2 ^ i ∧ m / 2 ^ i ≤ 4294967295 := fun i => ⟨Int.ediv_nonneg hm.1 (Int.pow_nonneg (by omega)), Int.le_trans (Int.ediv_le_self _ hm.1) hm.2⟩
  simp only [g1, g2, g3, g4, decide_false, decide_true, cond_false, Bool.true_and]
  rw [lfp_run' (fun i => ((m / 2 ^ i, v, (i : Int), ()), (), ())) v.toNat (by simp) fun i hi => by
    have h1 : (i : Int) < v := by omega
    have := hle i
    simp only [g_ref01_In_r1, h1, decide_true, cond_true]
    rw [Int.tdiv_eq_ediv_of_nonneg this.1, Go.IntWalk.u32_in _ (by omega), i64_in _ (by omega), Int.pow_succ, Int.ediv_ediv_of_nonneg (Int.pow_nonneg (by omega))]; rfl]
  have hnn : ((v.toNat : Nat) : Int) = v := by omega
  rw [lfp_inr (z := ((m / 2 ^ v.toNat, ()), (), ())) (by simp [g_ref01_In_r1, hnn])]
  simp only [Option.bind_some]
  rw [Int.tmod_eq_emod_of_nonneg (hle _).1]
theorem cntTo_le (m : Int) : ∀ n : Nat, 0 ≤ cntTo m n ∧ cntTo m n ≤ n
  | 0 => by simp [cntTo]
  | n + 1 => by
    have := cntTo_le m n
    simp only [cntTo]
    split <;> omega
theorem cntTo_mono (m : Int) {a b : Nat} (h : a ≤ b) : cntTo m a ≤ cntTo m b ∧ cntTo m b ≤ cntTo m a + (b - a : Nat) := by
  obtain ⟨d, rfl⟩ := Nat.exists_eq_add_of_le h
  induction d with
  | zero => simp
  | succ d ih =>
    have := ih (by omega)
    rw [show a + (d + 1) = (a + d) + 1 by omega]
    simp only [cntTo]
    split <;> omega
theorem eq_ref10_count : Eqs c_ref10_count g_ref10_count := Eqs.tot fun (m, _) _ => by
  change Int at m
  simp only [g_ref10_count]
  rw [lfp_run' (fun i => ((m, cntTo m i, (i : Int), ()), (), ())) 21 (by simp [cntTo]) fun i hi => by
    have h1 : (i : Int) < 21 := by omega
    have := cntTo_le m i
    simp only [g_ref10_count_r1, h1, decide_true, cond_true, cntTo]
    cases inB m i <;> simp <;> rw [i64_in _ (by omega)] <;> (try (rw [i64_in _ (by omega)]; exact ⟨rfl, rfl⟩))]
  rw [lfp_inr (z := ((cntTo m 21, ()), (), ())) (by simp [g_ref10_count_r1])]
  simp

/-! ### Bits -/
theorem bw_and_nat (n m : Nat) (hn : n < 4294967296) (hm : m < 4294967296) : bw .and .u32 (n : Int) (m : Int) = ((n &&& m : Nat) : Int) := by
  have e1 : BitVec.ofInt IntKind.u32.bits (n : Int) = BitVec.ofNat 32 n := by simp [IntKind.bits]
  have e2 : BitVec.ofInt IntKind.u32.bits (m : Int) = BitVec.ofNat 32 m := by simp [IntKind.bits]
  have hle : n &&& m ≤ n := Nat.and_le_left
  unfold bw
  simp only [e1, e2]
  have e3 : (BitVec.ofNat 32 n &&& BitVec.ofNat 32 m).toNat = n &&& m := by
    simp [BitVec.toNat_and, Nat.mod_eq_of_lt hn, Nat.mod_eq_of_lt hm]
  show IntKind.u32.wrap (((BitVec.ofNat 32 n &&& BitVec.ofNat 32 m).toNat : Nat) : Int) = _
  rw [e3, Go.IntWalk.u32_in _ (by omega)]
theorem bw_and_one (x : Int) (h0 : 0 ≤ x) (h1 : x ≤ 4294967295) : bw .and .u32 x 1 = x % 2 := by
  obtain ⟨n, rfl⟩ := Int.eq_ofNat_of_zero_le h0
  have := bw_and_nat n 1 (by omega) (by omega)
  rw [show ((1 : Nat) : Int) = 1 from rfl] at this
  rw [this, Nat.and_one_is_mod]; omega
theorem shr_u32 (x : Int) (v : Int) (hv : 0 ≤ v) (hv2 : v < 32) : shrI .u32 x v = x / 2 ^ v.toNat := by
  unfold shrI
  have : min v.toNat IntKind.u32.bits = v.toNat := by simp [IntKind.bits]; omega
  rw [this, Int.fdiv_eq_ediv_of_nonneg _ (Int.pow_nonneg (by omega))]
/-- The bit that the program asks for is the node's. -/
theorem bit_in (m v : Int) (h0 : 0 ≤ m) (h1 : m ≤ 4294967295) (hv : 0 ≤ v) (hv2 : v < 32) : decide (bw .and .u32 (shrI .u32 m v) 1 = 1) = inB m v := by
  rw [shr_u32 m v hv hv2]
  have hn : 0 ≤ m / 2 ^ v.toNat := Int.ediv_nonneg h0 (Int.pow_nonneg (by omega))
  have hle : m / 2 ^ v.toNat ≤ m := Int.ediv_le_self _ h0
  rw [bw_and_one _ hn (by omega)]
  simp [inB, hv, hv2]
theorem bit_in' (m v : Int) (h0 : 0 ≤ m) (h1 : m ≤ 4294967295) (hv : 0 ≤ v) (hv2 : v < 32) : decide (bw .and .u32 (shrI .u32 m (IntKind.wrap .u64 v)) 1 = 1) = inB m v := by
  rw [Go.IntWalk.u64_in _ (by omega)]; exact bit_in m v h0 h1 hv hv2
theorem inB_big {m v : Int} (h0 : 0 ≤ m) {k : Nat} (hk : m < 2 ^ k) (hv : (k : Int) ≤ v) : inB m v = false := by
  unfold inB
  have : m / 2 ^ v.toNat = 0 := by
    refine Int.ediv_eq_zero_of_lt h0 (Int.lt_of_lt_of_le hk ?_)
    obtain ⟨d, hd⟩ := Nat.exists_eq_add_of_le (show k ≤ v.toNat by omega)
    rw [hd, Int.pow_add]
    have h1 : (1 : Int) ≤ 2 ^ d := Int.pow_pos (by omega)
    have h2 : (0 : Int) < 2 ^ k := Int.pow_pos (by omega)
    have := Int.mul_le_mul_of_nonneg_left h1 (Int.le_of_lt h2)
    omega
  simp [this]
theorem cntTo_small {m : Int} (h0 : 0 ≤ m) {k : Nat} (hk : m < 2 ^ k) : ∀ d, cntTo m (k + d) = cntTo m k
  | 0 => rfl
  | d + 1 => by
    rw [show k + (d + 1) = (k + d) + 1 by omega]
    simp only [cntTo]
    rw [inB_big h0 hk (by omega), cntTo_small h0 hk d]; simp
def bits : Nat → Nat → Nat
  | 0, _ => 0
  | d + 1, n => n % 2 + bits d (n / 2)
theorem bits_le : ∀ (d n : Nat), bits d n ≤ d
  | 0, _ => by simp [bits]
  | d + 1, n => by have := bits_le d (n / 2); simp only [bits]; omega
theorem bits_add : ∀ (a b n : Nat), bits (a + b) n = bits a n + bits b (n / 2 ^ a)
  | 0, b, n => by simp [bits]
  | a + 1, b, n => by
    rw [show a + 1 + b = (a + b) + 1 by omega]
    simp only [bits]
    rw [bits_add a b (n / 2), Nat.div_div_eq_div_mul, show 2 * 2 ^ a = 2 ^ (a + 1) by rw [Nat.pow_succ]; omega]
    omega
theorem bits_mod : ∀ (d n : Nat), bits d (n % 2 ^ d) = bits d n
  | 0, n => by simp [bits]
  | d + 1, n => by
    simp only [bits]
    have e1 : n % 2 ^ (d + 1) % 2 = n % 2 := by rw [Nat.pow_succ, Nat.mul_comm]; exact Nat.mod_mul_right_mod n 2 (2 ^ d)
    have e2 : n % 2 ^ (d + 1) / 2 = n / 2 % 2 ^ d := by rw [Nat.pow_succ, Nat.mul_comm]; exact Nat.mod_mul_right_div_self n 2 (2 ^ d)
    rw [e1, e2, bits_mod d (n / 2)]
theorem bits_cnt (n : Nat) : ∀ d : Nat, d ≤ 32 → (bits d n : Int) = cntTo (n : Int) d
  | 0, _ => rfl
  | d + 1, h => by
    rw [bits_add d 1 n, cntTo, ← bits_cnt n d (by omega)]
    have hb : inB (n : Int) (d : Int) = decide (n / 2 ^ d % 2 = 1) := by
      unfold inB
      have h1 : (0 : Int) ≤ (d : Int) := by omega
      have h2 : (d : Int) < 32 := by omega
      simp only [h1, h2, decide_true, Bool.true_and, Int.toNat_natCast]
      congr 1
      rw [show ((n : Int) / 2 ^ d) = ((n / 2 ^ d : Nat) : Int) by simp]
      simp only [eq_iff_iff]
      omega
    rw [hb]
    simp only [bits]
    by_cases hc : n / 2 ^ d % 2 = 1
    · simp [hc]
    · have : n / 2 ^ d % 2 = 0 := by omega
      simp [this]
theorem and_255 (n : Nat) (hn : n < 4294967296) : bw .and .u32 (n : Int) 255 = ((n % 2 ^ 8 : Nat) : Int) := by
  have := bw_and_nat n 255 hn (by omega)
  rw [show ((255 : Nat) : Int) = 255 from rfl] at this
  rw [this, show (255 : Nat) = 2 ^ 8 - 1 from rfl, Nat.and_two_pow_sub_one_eq_mod]
theorem shr_nat (n v : Nat) (hv : v < 32) : shrI .u32 (n : Int) (v : Int) = ((n / 2 ^ v : Nat) : Int) := by
  rw [shr_u32 _ _ (by omega) (by omega)]
  simp
def tab8 : ByteArray := bytesOf ((List.range 256).map (bits 8))
theorem bat_tab (n : Nat) (hn : n < 256) : bat tab8 (n : Int) = (bits 8 n : Int) := by
  have hb := bits_le 8 n
  unfold bat tab8 bytesOf
  simp [hn]
  omega
set_option maxRecDepth 100000 in
theorem eq_bits_OnesCount32 : Eqs c_bits_OnesCount32 g_bits_OnesCount32 := Eqs.tot fun (x, _) hf => by
  change Int at x
  have hx := fine_u32.1 hf.1
  obtain ⟨n, rfl⟩ := Int.eq_ofNat_of_zero_le hx.1
  have hn : n < 4294967296 := by omega
  rw [g_bits_OnesCount32]
  generalize ht : bytesOf _ = tab
  have htab : tab = tab8 := by rw [← ht]; rfl
  subst htab
  show _ = some (cntTo (n : Int) 32, ())
  rw [← bits_cnt n 32 (by omega)]
  have s24 : shrI .u32 (n : Int) 24 = ((n / 2 ^ 24 : Nat) : Int) := shr_nat n 24 (by omega)
  have s16 : shrI .u32 (n : Int) 16 = ((n / 2 ^ 16 : Nat) : Int) := shr_nat n 16 (by omega)
  have s8 : shrI .u32 (n : Int) 8 = ((n / 2 ^ 8 : Nat) : Int) := shr_nat n 8 (by omega)
  have h24 : n / 2 ^ 24 < 256 := by omega
  have h16 : n / 2 ^ 16 < 4294967296 := by omega
  have h8 : n / 2 ^ 8 < 4294967296 := by omega
  have m16 : n / 2 ^ 16 % 2 ^ 8 < 256 := Nat.mod_lt _ (by omega)
  have m8 : n / 2 ^ 8 % 2 ^ 8 < 256 := Nat.mod_lt _ (by omega)
  have m0 : n % 2 ^ 8 < 256 := Nat.mod_lt _ (by omega)
  have hsum : bits 32 n = bits 8 n + (bits 8 (n / 2 ^ 8) + (bits 8 (n / 2 ^ 16) + bits 8 (n / 2 ^ 24))) := by
    rw [show 32 = 8 + (8 + (8 + 8)) from rfl, bits_add, bits_add, bits_add, Nat.div_div_eq_div_mul, Nat.div_div_eq_div_mul]
  have b0 := bits_le 8 n
  have b1 := bits_le 8 (n / 2 ^ 8)
  have b2 := bits_le 8 (n / 2 ^ 16)
  have b3 := bits_le 8 (n / 2 ^ 24)
  rw [s24, s16, s8, and_255 _ h16, and_255 _ h8, and_255 _ hn, bat_tab _ h24, bat_tab _ m16, bat_tab _ m8, bat_tab _ m0, bits_mod, bits_mod, bits_mod]
  rw [Go.IntWalk.u8_in ((bits 8 (n / 2 ^ 24) : Int) + (bits 8 (n / 2 ^ 16) : Int)) (by omega), Go.IntWalk.u8_in ((bits 8 (n / 2 ^ 24) : Int) + (bits 8 (n / 2 ^ 16) : Int) + (bits 8 (n / 2 ^ 8) : Int)) (by omega),
    Go.IntWalk.u8_in ((bits 8 (n / 2 ^ 24) : Int) + (bits 8 (n / 2 ^ 16) : Int) + (bits 8 (n / 2 ^ 8) : Int) + (bits 8 n : Int)) (by omega), i64_in _ (by omega), hsum]
  have k1 : decide ((0 : Int) ≤ ((n / 2 ^ 24 : Nat) : Int)) = true := decide_eq_true (by omega)
  have k2 : decide (((n / 2 ^ 24 : Nat) : Int) < 256) = true := decide_eq_true (by omega)
  have k3 : decide ((0 : Int) ≤ ((n / 2 ^ 16 % 2 ^ 8 : Nat) : Int)) = true := decide_eq_true (by omega)
  have k4 : decide (((n / 2 ^ 16 % 2 ^ 8 : Nat) : Int) < 256) = true := decide_eq_true (by omega)
  have k5 : decide ((0 : Int) ≤ ((n / 2 ^ 8 % 2 ^ 8 : Nat) : Int)) = true := decide_eq_true (by omega)
  have k6 : decide (((n / 2 ^ 8 % 2 ^ 8 : Nat) : Int) < 256) = true := decide_eq_true (by omega)
  have k7 : decide ((0 : Int) ≤ ((n % 2 ^ 8 : Nat) : Int)) = true := decide_eq_true (by omega)
  have k8 : decide (((n % 2 ^ 8 : Nat) : Int) < 256) = true := decide_eq_true (by omega)
  rw [k1, k2, k3, k4, k5, k6, k7, k8]
  simp only [Bool.and_self, cond_true, Option.some.injEq, Prod.mk.injEq, and_true]
  omega

/-! ### The ratchet's check -/
theorem mget_cons {α β : Type} [DecidableEq α] (e : α × β) (l : List (α × β)) (k : α) : mget (e :: l) k = if e.1 = k then some e.2 else mget l k := by
  unfold mget
  by_cases h : e.1 = k <;> simp [h]
theorem mget_mput {α β : Type} [DecidableEq α] (a : α) (b : β) (c : α) : ∀ l : List (α × β), mget (mput l a b) c = if a = c then some b else mget l c
  | [] => by simp only [mput]; rw [mget_cons]
  | e :: l => by
    simp only [mput]
    by_cases h : e.1 = a
    · rw [if_pos h, mget_cons, mget_cons]
      by_cases hc : a = c
      · simp [hc]
      · have : ¬ e.1 = c := by rw [h]; exact hc
        simp [hc, this]
    · rw [if_neg h, mget_cons, mget_mput a b c l, mget_cons]
      by_cases hc : a = c
      · subst hc; simp [h]
      · simp [hc]
/-- A map that counts, behind i places. -/
def cmap (g : Nat → Int) : Nat → List (Int × Int)
  | 0 => []
  | i + 1 => mput (cmap g i) (g i) ((mget (cmap g i) (g i)).getD 0 + 1)
theorem cmap_get (g : Nat → Int) (b : Int) : ∀ i, 0 ≤ (mget (cmap g i) b).getD 0 ∧ (mget (cmap g i) b).getD 0 ≤ i ∧ ((mget (cmap g i) b).getD 0 = 0 ↔ ∀ j, j < i → g j ≠ b)
  | 0 => by simp [cmap, mget]
  | i + 1 => by
    obtain ⟨h1, h2, h3⟩ := cmap_get g b i
    simp only [cmap]
    rw [mget_mput]
    by_cases hb : g i = b
    · rw [if_pos hb, hb]
      simp only [Option.getD_some]
      refine ⟨by omega, by omega, ⟨fun h => by omega, fun h => absurd hb (h i (by omega))⟩⟩
    · simp only [if_neg hb]
      refine ⟨h1, by omega, h3.trans ⟨fun h j hj => ?_, fun h j hj => h j (by omega)⟩⟩
      by_cases he : j = i
      · subst he; exact hb
      · exact h j (by omega)
theorem cmap_succ (g : Nat → Int) (i : Nat) (h : i < 1000000) : mput (cmap g i) (g i) (IntKind.i64.wrap ((mget (cmap g i) (g i)).getD 0 + 1)) = cmap g (i + 1) := by
  have := cmap_get g (g i) i
  rw [i64_in _ (by omega)]; rfl
theorem cmap_twice (g : Nat → Int) (i : Nat) : (1 < (mget (cmap g (i + 1)) (g i)).getD 0) ↔ ¬ ∀ j, j < i → g j ≠ g i := by
  have := cmap_get g (g i) i
  simp only [cmap]
  rw [mget_mput, if_pos rfl]
  simp only [Option.getD_some]
  rw [← this.2.2]
  omega
theorem eq_ratchet_Check : Eqs c_ratchet_Check g_ratchet_Check := Eqs.tot fun (k, _) _ => by
  simp only [g_ratchet_Check]
  rw [lfp_all' (fun i => (((), k, (i : Int), ()), (), cmap (fun j => bas k j) i, ())) 21 (okAt k) (.inl ((31, ()), (), ())) (.inr ((), (), ())) (by rfl)
    (fun i hi hok => by
      have h1 : (i : Int) < 21 := by omega
      obtain ⟨hg, hb, hn⟩ := okAt_iff.1 hok
      have hb' : ¬ 32768 ≤ (Arr.get k i).Base := by have : (Arr.get k i).Base < 32768 := hb; omega
      have hc := cmap_succ (fun j => bas k j) i (by omega)
      have ht : ¬ 1 < (mget (cmap (fun j => bas k j) (i + 1)) (bas k i)).getD 0 := fun h => (cmap_twice (fun j => bas k j) i).1 h hn
      simp only [g_ratchet_Check_r1, h1, decide_true, cond_true, Int.natCast_nonneg, Bool.and_self, hg, Bool.not_true, cond_false, hb', decide_false]
      simp only [bas] at hc ht ⊢
      rw [hc]
      simp only [ht, decide_false, cond_false, wrap1 i (by omega)])
    (fun i hi hok => by
      have h1 : (i : Int) < 21 := by omega
      have hc := cmap_succ (fun j => bas k j) i (by omega)
      simp only [g_ratchet_Check_r1, h1, decide_true, cond_true, Int.natCast_nonneg, Bool.and_self]
      cases hg : good (Arr.get k i) with
      | false => simp
      | true =>
        simp only [Bool.not_true, cond_false]
        by_cases hb : 32768 ≤ (Arr.get k i).Base
        · simp [hb]
        · have ht : 1 < (mget (cmap (fun j => bas k j) (i + 1)) (bas k i)).getD 0 := (cmap_twice (fun j => bas k j) i).2 fun hn => by
            have : okAt k i = true := okAt_iff.2 ⟨hg, by show (Arr.get k i).Base < 32768; omega, hn⟩
            rw [this] at hok; cases hok
          simp only [hb, decide_false, cond_false]
          simp only [bas] at hc ht ⊢
          rw [hc]
          simp only [ht, decide_true, cond_true])
    (by simp [g_ratchet_Check_r1])]
  simp only [Option.bind_some, chk, goodKeys]
  cases allN 21 (okAt k) <;> rfl
theorem eq_ref10_Check : Eqs c_ref10_Check g_ref10_Check := Eqs.tot fun (k, _) _ => by
  simp only [g_ref10_Check]
  have inner : ∀ v : Nat, v < 21 → lfp g_ref10_Check_r2 (((), (v : Int), 0, ()), (k, ()), ()) = some (bif allN v (fun w => !decide (bas k w = bas k v)) then .inr (((), (v : Int), ()), (k, ()), ()) else .inl ((31, ()), (), ())) := fun v hv =>
    lfp_all' (fun i => (((), (v : Int), (i : Int), ()), (k, ()), ())) v (fun w => !decide (bas k w = bas k v)) _ _ rfl
      (fun i hi hok => by
        have h1 : (i : Int) < v := by omega
        have h2 : (v : Int) < 21 := by omega
        have hok : ¬ (Arr.get k i).Base = (Arr.get k v).Base := by simpa using hok
        simp only [g_ref10_Check_r2, h1, decide_true, cond_true, (show (i : Int) < 21 by omega), Int.natCast_nonneg, Bool.and_self, h2, hok, decide_false, cond_false, wrap1 i (by omega)])
      (fun i hi hok => by
        have h1 : (i : Int) < v := by omega
        have h2 : (v : Int) < 21 := by omega
        have hok : (Arr.get k i).Base = (Arr.get k v).Base := by simpa using hok
        simp only [g_ref10_Check_r2, h1, decide_true, cond_true, (show (i : Int) < 21 by omega), Int.natCast_nonneg, Bool.and_self, h2, hok])
      (by simp [g_ref10_Check_r2])
  rw [lfp_all' (fun i => (((), (i : Int), ()), (k, ()), ())) 21 (okAt k) (.inl ((31, ()), (), ())) (.inr ((), (), ())) (by rfl)
    (fun i hi hok => by
      have h1 : (i : Int) < 21 := by omega
      have hin := inner i hi
      obtain ⟨hg, hb, hn⟩ := okAt_iff.1 hok
      have hb' : ¬ 32768 ≤ (Arr.get k i).Base := by have : (Arr.get k i).Base < 32768 := hb; omega
      rw [(allN_iff.2 fun j hj => by simpa using hn j hj : allN i (fun w => !decide (bas k w = bas k i)) = true)] at hin
      simp only [g_ref10_Check_r1, h1, decide_true, cond_true, Int.natCast_nonneg, Bool.and_self, hg, Bool.not_true, cond_false, hb', decide_false, hin, Option.bind_some, Sum.elim_inr, wrap1 i (by omega)])
    (fun i hi hok => by
      have h1 : (i : Int) < 21 := by omega
      have hin := inner i hi
      simp only [g_ref10_Check_r1, h1, decide_true, cond_true, Int.natCast_nonneg, Bool.and_self]
      cases hg : good (Arr.get k i) with
      | false => simp
      | true =>
        simp only [Bool.not_true, cond_false]
        by_cases hb : 32768 ≤ (Arr.get k i).Base
        · simp [hb]
        · have hfa : allN i (fun w => !decide (bas k w = bas k i)) = false := Bool.eq_false_iff.2 fun hn => by
            have : okAt k i = true := okAt_iff.2 ⟨hg, by show (Arr.get k i).Base < 32768; omega, fun w hw => by simpa using allN_iff.1 hn w hw⟩
            rw [this] at hok; cases hok
          rw [hfa] at hin
          simp only [hb, decide_false, cond_false, hin, Option.bind_some, Sum.elim_inl])
    (by simp [g_ref10_Check_r1])]
  simp only [Option.bind_some, chk, goodKeys]
  cases allN 21 (okAt k) <;> rfl
theorem free_at (_ : Keys) (f n : Int) (h1 : 1 ≤ f) (h2 : f ≤ 32768 - n) (h3 : 0 ≤ n) : IntKind.i64.wrap (f + n) = f + n := i64_in _ (by omega)
theorem eq_ratchet_free : Eqs c_ratchet_free g_ratchet_free := fun (k, f, n, _) y hf h => by
  change Int at f n
  simp only [guardK] at h
  have hn : 0 ≤ n ∧ n ≤ 32 := by
    cases hc : (decide (0 ≤ n) && decide (n ≤ 32)) with
    | true => simpa using hc
    | false => rw [hc] at h; cases h
  have hc : (decide (0 ≤ n) && decide (n ≤ 32)) = true := by simpa using hn
  rw [hc] at h
  simp only [cond_true] at h
  rw [← h]
  simp only [g_ratchet_free, free]
  rw [i64_in (32768 - n) (by omega)]
  by_cases g0 : n = 0
  · simp [g0]
  by_cases g1 : f < 1
  · have : ¬ 1 ≤ f := by omega
    simp [g0, g1, this]
  by_cases g2 : 32768 - n < f
  · have : ¬ f ≤ 32768 - n := by omega
    simp [g0, g1, g2, this]
  have g3 : 1 ≤ f := by omega
  have g4 : f ≤ 32768 - n := by omega
  simp only [g0, g1, g2, g3, g4, decide_false, decide_true, cond_false, Bool.false_or, Bool.true_and]
  rw [lfp_all' (fun i => ((f, n, k, (i : Int), ()), (), ())) 21 (fun v => !(decide (f ≤ bas k v) && decide (bas k v < f + n))) (.inl ((false, ()), (), ())) (.inr ((), (), ())) (by rfl)
    (fun i hi hok => by
      have h1 : (i : Int) < 21 := by omega
      simp only [g_ratchet_free_r1, h1, decide_true, cond_true, Int.natCast_nonneg, Bool.and_self, free_at k f n g3 g4 hn.1, wrap1 i (by omega)]
      by_cases a1 : f ≤ (Arr.get k i).Base
      · have a2 : ¬ (Arr.get k i).Base < f + n := by simp [bas, a1] at hok; omega
        simp [a1, a2]
      · simp [a1])
    (fun i hi hok => by
      have h1 : (i : Int) < 21 := by omega
      have hok : f ≤ (Arr.get k i).Base ∧ (Arr.get k i).Base < f + n := by simpa [bas] using hok
      simp only [g_ratchet_free_r1, h1, decide_true, cond_true, Int.natCast_nonneg, Bool.and_self, free_at k f n g3 g4 hn.1, hok.1, hok.2])
    (by simp [g_ratchet_free_r1])]
  simp only [Option.bind_some]
  cases allN 21 (fun v => !(decide (f ≤ bas k v) && decide (bas k v < f + n))) <;> rfl
end Go.Co.N
end

section
namespace Go.Co.N
open Go Go.Co

/-! ### Turns -/
/-- The keys behind a part of a turn: from node j on. -/
def mixed (k : Keys) (m f : Int) (j : Nat) : Keys := Arr.make fun w => if j ≤ w then turnedAt k m f w else Arr.get k (w : Int)
theorem mixed_21 (k : Keys) (m f : Int) : mixed k m f 21 = k := arr_ext fun i h0 h1 => by
  rw [mixed, get_make _ _ h0 h1, if_neg (by omega), Int.toNat_of_nonneg h0]
theorem mixed_0 (k : Keys) (m f : Int) : mixed k m f 0 = turned k m f := arr_ext fun i h0 h1 => by
  rw [mixed, turned, get_make _ _ h0 h1, get_make _ _ h0 h1, if_pos (by omega)]
theorem mixed_put (k : Keys) (m f : Int) (v : Nat) (hv : v < 21) : Arr.put (mixed k m f (v + 1)) (v : Int) (turnedAt k m f v) = mixed k m f v := arr_ext fun i h0 h1 => by
  rw [get_put _ _ _ _ (by omega) (by omega) h0]
  split
  · rename_i h; subst h
    rw [mixed, get_make _ _ h0 h1, if_pos (by omega)]; rfl
  · rename_i h
    rw [mixed, mixed, get_make _ _ h0 h1, get_make _ _ h0 h1]
    by_cases hi : v + 1 ≤ i.toNat
    · rw [if_pos hi, if_pos (by omega)]
    · rw [if_neg hi, if_neg (by omega)]
theorem mixed_get (k : Keys) (m f : Int) (v : Nat) (hv : v < 21) : Arr.get (mixed k m f (v + 1)) (v : Int) = Arr.get k (v : Int) := by
  rw [mixed, get_make _ _ (by omega) (by omega), if_neg (by omega)]; simp
theorem allN_rev (n : Nat) (p : Nat → Bool) : allN n (fun i => p (n - 1 - i)) = allN n p := bool_eq (by
  rw [allN_iff, allN_iff]
  exact ⟨fun h i hi => by have := h (n - 1 - i) (by omega); rwa [show n - 1 - (n - 1 - i) = i by omega] at this, fun h i hi => h _ (by omega)⟩)
theorem chk_0 {k : Keys} : chk k = 0 ↔ goodKeys k = true := by unfold chk; cases goodKeys k <;> simp
theorem ahead_1 {k : Key} (hg : good k = true) : ahead k 1 = if k.Step < 255 then (⟨k.Base, k.Step + 1⟩, 0) else (⟨0, 0⟩, 4) := by
  unfold ahead
  rw [if_pos hg]
  by_cases h : k.Step < 255
  · rw [if_pos ⟨by omega, by omega⟩, if_pos h]
  · rw [if_neg (by omega), if_neg h]
theorem free_cnt {k : Keys} {f n : Int} (h : free k f n = true) : n = 0 ∨ (1 ≤ f ∧ f ≤ 32768 - n ∧ ∀ v : Nat, v < 21 → ¬ (f ≤ bas k v ∧ bas k v < f + n)) := by
  unfold free at h
  simp only [Bool.or_eq_true, Bool.and_eq_true, decide_eq_true_eq, allN_iff] at h
  rcases h with h | ⟨⟨h1, h2⟩, h3⟩
  · exact .inl h
  · exact .inr ⟨h1, h2, fun v hv => by have := h3 v hv; simp at this; omega⟩
theorem cnt_in {m : Int} {v : Nat} (hv : v < 21) (h : inB m v = true) : cntTo m (v + 1) = cntTo m v + 1 ∧ cntTo m (v + 1) ≤ cntTo m 21 ∧ 0 ≤ cntTo m v := by
  refine ⟨by simp [cntTo, h], (cntTo_mono m (by omega)).1, (cntTo_le m v).1⟩
theorem bits_zero : ∀ (d n : Nat), n < 2 ^ d → bits d n = 0 → n = 0
  | 0, n, h, _ => by simpa using h
  | d + 1, n, h, hb => by
    simp only [bits] at hb
    have := bits_zero d (n / 2) (by rw [Nat.pow_succ] at h; omega) (by omega)
    omega
/-- No node beyond the inner ones: the mask is small. -/
theorem small_iff {m : Int} (h0 : 0 ≤ m) (h1 : m ≤ 4294967295) : allN 11 (fun i => !inB m ((21 + i : Nat) : Int)) = true ↔ m < 2097152 := by
  rw [allN_iff]
  constructor
  · intro h
    obtain ⟨n, rfl⟩ := Int.eq_ofNat_of_zero_le h0
    have hc : ∀ d, d ≤ 11 → cntTo (n : Int) (21 + d) = cntTo (n : Int) 21 := by
      intro d
      induction d with
      | zero => simp
      | succ d ih =>
        intro hd
        show cntTo (n : Int) (21 + d) + (if inB (n : Int) ((21 + d : Nat) : Int) = true then 1 else 0) = _
        have := h d (by omega)
        simp only [Bool.not_eq_true'] at this
        rw [ih (by omega), this, if_neg (by simp), Int.add_zero]
    have h32 := hc 11 (by omega)
    rw [← bits_cnt n 32 (by omega), ← bits_cnt n 21 (by omega), bits_add 21 11 n] at h32
    have := bits_zero 11 (n / 2 ^ 21) (by omega) (by omega)
    omega
  · intro h i hi
    rw [inB_big h0 (k := 21) (by omega) (by omega)]; rfl
theorem shr_21 {m : Int} (h0 : 0 ≤ m) : decide (shrI .u32 m 21 = 0) = decide (m < 2097152) := by
  rw [shr_u32 m 21 (by omega) (by omega)]
  congr 1
  simp only [eq_iff_iff]
  constructor
  · intro h; have : m / 2097152 = 0 := h; omega
  · intro h; show m / 2097152 = 0; omega

section
variable {k : Keys} {m f : Int} (hk : goodKeys k = true) (hm : 0 ≤ m ∧ m ≤ 4294967295) (hf : I64 f) (hfr : free k f (cntTo m 21) = true)
/-- The fresh name behind a part of a turn. -/
abbrev nameAt (m f : Int) (i : Nat) : Int := f + (cntTo m 21 - cntTo m (21 - i))
include hf hfr in
theorem name_next {i : Nat} (hi : i < 21) : nameAt m f (i + 1) = if inB m ((20 - i : Nat) : Int) = true then IntKind.i64.wrap (nameAt m f i + 1) else nameAt m f i := by
  have e : 21 - i = (20 - i) + 1 := by omega
  have e2 : 21 - (i + 1) = 20 - i := by omega
  split
  · rename_i hin
    obtain ⟨h1, h2, h3⟩ := cnt_in (by omega) hin
    have h4 := cntTo_le m 21
    rcases free_cnt hfr with h | ⟨h5, h6, _⟩
    · omega
    · simp only [nameAt, e, e2]
      rw [i64_in _ (by omega)]; omega
  · rename_i hin
    simp only [nameAt, e, e2, cntTo]
    rw [if_neg hin]; simp
include hk hm hf hfr in
theorem turn_loop_a : lfp g_ratchet_Turn_r1 ((m, f, (), (), 0, ()), (k, zeroK, ()), ()) =
    some (bif allN 21 (fun v => inB m v || decide (stp k v < 255)) then .inr ((f + cntTo m 21, (), (), ()), (turned k m f, zeroK, ()), ()) else .inl (((), 0, 4, ()), (zeroK, ()), ())) := by
  rw [← allN_rev 21 fun v => inB m v || decide (stp k v < 255)]
  refine lfp_all' (fun i => ((m, nameAt m f i, (), (), (i : Int), ()), (mixed k m f (21 - i), zeroK, ()), ())) 21 (fun i => inB m ((20 - i : Nat) : Int) || decide (stp k ((20 - i : Nat) : Int) < 255)) _ _ ?_ ?_ ?_ ?_
  · simp [nameAt, mixed_21]
  · intro i hi hok
    have h1 : (i : Int) < 21 := by omega
    have hw : IntKind.i64.wrap (20 - (i : Int)) = ((20 - i : Nat) : Int) := by rw [i64_in _ (by omega)]; omega
    have hr : (decide (0 ≤ ((20 - i : Nat) : Int)) && decide (((20 - i : Nat) : Int) < 21)) = true := inr (by omega) (Int.le_refl _)
    have hp := mixed_put k m f (20 - i) (by omega)
    have hgt := mixed_get k m f (20 - i) (by omega)
    have hnx := name_next hf hfr hi
    rw [show 20 - i + 1 = 21 - i by omega] at hp hgt
    have hpar := (goodKeys_iff.1 hk (20 - i) (by omega)).1
    simp only [g_ratchet_Turn_r1, h1, decide_true, cond_true, hw, hr, bit_in' m _ hm.1 hm.2 (show 0 ≤ ((20 - i : Nat) : Int) by omega) (show ((20 - i : Nat) : Int) < 32 by omega), wrap1 i (by omega), hgt, ahead_1 hpar]
    rw [show 21 - (i + 1) = 20 - i by omega]
    cases hin : inB m ((20 - i : Nat) : Int) with
    | true =>
      rw [hin, if_pos rfl] at hnx
      simp only [cond_true, hnx, ← hp, turnedAt, hin, if_true]
      rw [show 20 - i + 1 = 21 - i by omega]
    | false =>
      rw [hin, if_neg (by simp)] at hnx
      rw [hin] at hok
      have hs : (Arr.get k ((20 - i : Nat) : Int)).Step < 255 := by simpa using hok
      simp [hs, hnx, ← hp, turnedAt, hin]
  · intro i hi hok
    have h1 : (i : Int) < 21 := by omega
    have hw : IntKind.i64.wrap (20 - (i : Int)) = ((20 - i : Nat) : Int) := by rw [i64_in _ (by omega)]; omega
    have hr : (decide (0 ≤ ((20 - i : Nat) : Int)) && decide (((20 - i : Nat) : Int) < 21)) = true := inr (by omega) (Int.le_refl _)
    have hgt := mixed_get k m f (20 - i) (by omega)
    rw [show 20 - i + 1 = 21 - i by omega] at hgt
    have hpar := (goodKeys_iff.1 hk (20 - i) (by omega)).1
    have hok : inB m ((20 - i : Nat) : Int) = false ∧ ¬ (Arr.get k ((20 - i : Nat) : Int)).Step < 255 := by
      have := hok
      simp only [Bool.or_eq_false_iff, decide_eq_false_iff_not] at this; exact this
    simp only [g_ratchet_Turn_r1, h1, decide_true, cond_true, hw, hr, bit_in' m _ hm.1 hm.2 (show 0 ≤ ((20 - i : Nat) : Int) by omega) (show ((20 - i : Nat) : Int) < 32 by omega), hgt, ahead_1 hpar, hok.1, hok.2, cond_false, if_false]
    rfl
  · simp [g_ratchet_Turn_r1, mixed_0, nameAt, cntTo]
include hk hf hfr in
theorem turn_loop_b : lfp g_ref10_Turn_r3 ((m, f, (), (), 20, ()), (k, zeroK, ()), ()) =
    some (bif allN 21 (fun v => inB m v || decide (stp k v < 255)) then .inr ((f + cntTo m 21, (), (), ()), (turned k m f, zeroK, ()), ()) else .inl (((), 0, 4, ()), (zeroK, ()), ())) := by
  rw [← allN_rev 21 fun v => inB m v || decide (stp k v < 255)]
  refine lfp_all' (fun i => ((m, nameAt m f i, (), (), 20 - (i : Int), ()), (mixed k m f (21 - i), zeroK, ()), ())) 21 (fun i => inB m ((20 - i : Nat) : Int) || decide (stp k ((20 - i : Nat) : Int) < 255)) _ _ ?_ ?_ ?_ ?_
  · simp [nameAt, mixed_21]
  · intro i hi hok
    have h1 : 0 ≤ 20 - (i : Int) := by omega
    have hw : 20 - (i : Int) = ((20 - i : Nat) : Int) := by omega
    have hr : (decide (0 ≤ ((20 - i : Nat) : Int)) && decide (((20 - i : Nat) : Int) < 21)) = true := inr (by omega) (Int.le_refl _)
    have hp := mixed_put k m f (20 - i) (by omega)
    have hgt := mixed_get k m f (20 - i) (by omega)
    have hnx := name_next hf hfr hi
    rw [show 20 - i + 1 = 21 - i by omega] at hp hgt
    have hpar := (goodKeys_iff.1 hk (20 - i) (by omega)).1
    have hw2 : IntKind.i64.wrap (((20 - i : Nat) : Int) - 1) = 20 - ((i + 1 : Nat) : Int) := by rw [i64_in _ (by omega)]; omega
    simp only [g_ref10_Turn_r3, hw, hw2, cond_true, hr, hgt, ahead_1 hpar]
    rw [show 21 - (i + 1) = 20 - i by omega, decide_eq_true (show 0 ≤ ((20 - i : Nat) : Int) by omega)]
    simp only [cond_true]
    cases hin : inB m ((20 - i : Nat) : Int) with
    | true =>
      rw [hin, if_pos rfl] at hnx
      simp only [cond_true, hnx, ← hp, turnedAt, hin, if_true]
      rw [show 20 - i + 1 = 21 - i by omega]
    | false =>
      rw [hin, if_neg (by simp)] at hnx
      rw [hin] at hok
      have hs : (Arr.get k ((20 - i : Nat) : Int)).Step < 255 := by simpa using hok
      simp [hs, hnx, ← hp, turnedAt, hin]
  · intro i hi hok
    have hw : 20 - (i : Int) = ((20 - i : Nat) : Int) := by omega
    have hr : (decide (0 ≤ ((20 - i : Nat) : Int)) && decide (((20 - i : Nat) : Int) < 21)) = true := inr (by omega) (Int.le_refl _)
    have hgt := mixed_get k m f (20 - i) (by omega)
    rw [show 20 - i + 1 = 21 - i by omega] at hgt
    have hpar := (goodKeys_iff.1 hk (20 - i) (by omega)).1
    have hok : inB m ((20 - i : Nat) : Int) = false ∧ ¬ (Arr.get k ((20 - i : Nat) : Int)).Step < 255 := by
      have := hok
      simp only [Bool.or_eq_false_iff, decide_eq_false_iff_not] at this; exact this
    simp only [g_ref10_Turn_r3, hw, show 0 ≤ ((20 - i : Nat) : Int) by omega, show ((20 - i : Nat) : Int) < 21 by omega, decide_true, Bool.and_self, cond_true, hgt, ahead_1 hpar, hok.1, hok.2, cond_false, if_false]
    rfl
  · simp [g_ref10_Turn_r3, mixed_0, nameAt, cntTo]
end
theorem eq_ratchet_Turn : Eqs c_ratchet_Turn g_ratchet_Turn := Eqs.tot fun (k, m, f, _) hf => by
  change Int at m f
  have hm : 0 ≤ m ∧ m ≤ 4294967295 := fine_u32.1 hf.2.1
  have hff : I64 f := fine_i.1 hf.2.2.1
  simp only [g_ratchet_Turn, turn, chk_0, shr_21 hm.1]
  by_cases hk : goodKeys k = true
  · by_cases hs : m < 2097152
    · have hc : cntTo m 32 = cntTo m 21 := cntTo_small hm.1 (k := 21) (by omega) 11
      have hle := cntTo_le m 21
      have hr : (decide (0 ≤ cntTo m 21) && decide (cntTo m 21 ≤ 32)) = true := by simp; omega
      simp only [hk, hs, decide_true, Bool.not_true, cond_false, hc, hr, cond_true, Option.bind_some]
      cases hfr : free k f (cntTo m 21) with
      | false => simp
      | true =>
        simp only [Bool.not_true, cond_false, cond_true]
        have := turn_loop_a hk hm hff hfr
        rw [show (Vector.replicate 21 (St.zero St.key) : Keys) = zeroK from rfl, this]
        cases allN 21 (fun v => inB m v || decide (stp k v < 255)) <;> rfl
    · simp [hk, hs]
  · simp [hk]
theorem eq_ref10_Turn : Eqs c_ref10_Turn g_ref10_Turn := Eqs.tot fun (k, m, f, _) hf => by
  change Int at m f
  have hm : 0 ≤ m ∧ m ≤ 4294967295 := fine_u32.1 hf.2.1
  have hff : I64 f := fine_i.1 hf.2.2.1
  simp only [g_ref10_Turn, turn, chk_0]
  by_cases hk : goodKeys k = true
  · simp only [hk, decide_true, Bool.not_true, cond_false, cond_true]
    rw [lfp_all' (fun i => ((m, f, (), (), ((21 + i : Nat) : Int), ()), (k, zeroK, ()), ())) 11 (fun i => !inB m ((21 + i : Nat) : Int)) (.inl (((), 0, 2, ()), (zeroK, ()), ())) (.inr ((m, f, (), (), ()), (k, zeroK, ()), ())) (by simp)
      (fun i hi hok => by
        have h1 : ((21 + i : Nat) : Int) < 32 := by omega
        have hok : inB m ((21 + i : Nat) : Int) = false := by simpa using hok
        simp only [g_ref10_Turn_r1, h1, hok, decide_true, cond_true, cond_false, wrap1 (21 + i) (by omega)]; rfl)
      (fun i hi hok => by
        have h1 : ((21 + i : Nat) : Int) < 32 := by omega
        have hok : inB m ((21 + i : Nat) : Int) = true := by simpa using hok
        simp only [g_ref10_Turn_r1, h1, hok, decide_true, cond_true])
      (by simp [g_ref10_Turn_r1])]
    simp only [Option.bind_some]
    by_cases hs : m < 2097152
    · rw [(small_iff hm.1 hm.2).2 hs]
      simp only [hs, decide_true, cond_true, Sum.elim_inr]
      have hle := cntTo_le m 21
      have r2 : 0 < cntTo m 21 → 1 ≤ f → f ≤ 32768 - cntTo m 21 → lfp g_ref10_Turn_r2 ((m, f, (), (), cntTo m 21, 0, ()), (k, zeroK, ()), ()) =
          some (bif allN 21 (fun v => !(decide (f ≤ bas k v) && decide (bas k v < f + cntTo m 21))) then .inr ((m, f, (), (), ()), (k, zeroK, ()), ()) else .inl (((), 0, 3, ()), (zeroK, ()), ())) := fun hp h1 h2 => by
        have hw : IntKind.i64.wrap (f + cntTo m 21) = f + cntTo m 21 := i64_in _ (by omega)
        refine lfp_all' (fun i => ((m, f, (), (), cntTo m 21, (i : Int), ()), (k, zeroK, ()), ())) 21 _ _ _ rfl ?_ ?_ ?_
        · intro i hi hok
          have h1 : (i : Int) < 21 := by omega
          simp only [g_ref10_Turn_r2, h1, hp, decide_true, cond_true, Int.natCast_nonneg, Bool.and_self, hw, wrap1 i (by omega)]
          by_cases a1 : f ≤ (Arr.get k i).Base
          · have a2 : ¬ (Arr.get k i).Base < f + cntTo m 21 := by simp [bas, a1] at hok; omega
            simp [a1, a2]
          · simp [a1]
        · intro i hi hok
          have h1 : (i : Int) < 21 := by omega
          have hok : f ≤ (Arr.get k i).Base ∧ (Arr.get k i).Base < f + cntTo m 21 := by simpa [bas] using hok
          simp only [g_ref10_Turn_r2, h1, hp, decide_true, cond_true, Int.natCast_nonneg, Bool.and_self, hw, hok.1, hok.2]
        · simp [g_ref10_Turn_r2]
      have r20 : cntTo m 21 = 0 → lfp g_ref10_Turn_r2 ((m, f, (), (), 0, 0, ()), (k, zeroK, ()), ()) = some (.inr ((m, f, (), (), ()), (k, zeroK, ()), ())) := fun h => lfp_inr (by simp [g_ref10_Turn_r2])
      have zk : (Vector.replicate 21 (St.zero St.key) : Keys) = zeroK := rfl
      by_cases hp : 0 < cntTo m 21
      · simp only [hp, decide_true, cond_true]
        rw [i64_in _ (by omega)]
        by_cases g1 : f < 1
        · have : free k f (cntTo m 21) = false := by
            have h0 : ¬ cntTo m 21 = 0 := by omega
            have h1 : ¬ 1 ≤ f := by omega
            simp [free, h0, h1]
          simp [g1, this, zk]
        · by_cases g2 : 32768 - cntTo m 21 < f
          · have : free k f (cntTo m 21) = false := by
              have h0 : ¬ cntTo m 21 = 0 := by omega
              have h1 : ¬ f ≤ 32768 - cntTo m 21 := by omega
              simp [free, h0, h1]
            simp [g1, g2, this, zk]
          · simp only [g1, g2, decide_false, cond_false]
            rw [r2 hp (by omega) (by omega)]
            have hfe : free k f (cntTo m 21) = allN 21 (fun v => !(decide (f ≤ bas k v) && decide (bas k v < f + cntTo m 21))) := by
              have h0 : ¬ cntTo m 21 = 0 := by omega
              have h1 : 1 ≤ f := by omega
              have h2 : f ≤ 32768 - cntTo m 21 := by omega
              simp [free, h0, h1, h2]
            rw [hfe]
            cases hall : allN 21 (fun v => !(decide (f ≤ bas k v) && decide (bas k v < f + cntTo m 21))) with
            | false => simp
            | true =>
              simp only [cond_true, Option.bind_some, Sum.elim_inr]
              rw [turn_loop_b hk hff (by rw [hfe, hall])]
              cases allN 21 (fun v => inB m v || decide (stp k v < 255)) <;> rfl
      · have h0 : cntTo m 21 = 0 := by omega
        have hfr : free k f (cntTo m 21) = true := by simp [free, h0]
        simp only [hp, decide_false, cond_false, hfr, cond_true]
        rw [h0, r20 h0]
        simp only [Option.bind_some, Sum.elim_inr]
        rw [turn_loop_b hk hff hfr, h0]
        cases allN 21 (fun v => inB m v || decide (stp k v < 255)) <;> rfl
    · rw [Bool.eq_false_iff.2 fun h => hs ((small_iff hm.1 hm.2).1 h)]; simp [hs]
  · simp [hk]

/-! ### Leaves, paths -/
theorem eq_ratchet_LeafAt : Eqs c_ratchet_LeafAt g_ratchet_LeafAt := Eqs.tot fun (e, n, _) hf => by
  change Int at n
  have hn : n ≤ 9223372036854775807 := (fine_i.1 hf.2.1).2
  simp only [g_ratchet_LeafAt, leafAt]
  by_cases h0 : e.Base = 0
  · simp [h0]
  by_cases h1 : e.Base < 1 ∨ 32768 ≤ e.Base ∨ e.Since < 1 ∨ 200 < e.Since
  · rw [if_neg h0, if_pos h1]
    rcases h1 with h1 | h1 | h1 | h1
    · have : e.Base < 0 := by omega
      simp [h0, this]
    · simp [h0, h1]
    · simp [h0, h1]
    · simp [h0, h1]
  · rw [if_neg h0, if_neg h1]
    have g1 : ¬ e.Base < 0 := by omega
    have g2 : ¬ 32768 ≤ e.Base := by omega
    have g3 : ¬ e.Since < 1 := by omega
    have g4 : ¬ 200 < e.Since := by omega
    by_cases h2 : n < e.Since
    · simp [h0, g1, g2, g3, g4, h2]
    · simp only [h0, g1, g2, g3, g4, h2, decide_false, cond_false, if_false]
      rw [i64_in _ (by omega)]
      have hg : good ⟨e.Base, 0⟩ = true := good_iff.2 ⟨by simp only; omega, by simp only; omega, by simp, by simp⟩
      unfold ahead
      rw [if_pos hg]
      by_cases h3 : e.Since + 255 < n
      · rw [if_pos h3, if_neg (by simp only; omega)]
      · rw [if_neg h3, if_pos (by simp only; omega)]; simp
end Go.Co.N
end

section
namespace Go.Co.N
open Go Go.Co

theorem turn_ok {k : Keys} {m f : Int} (h : (turn k m f).2.2 = 0) : goodKeys k = true ∧ m < 2097152 ∧ free k f (cntTo m 21) = true ∧ (∀ v : Nat, v < 21 → inB m v = true ∨ stp k v < 255) ∧ turn k m f = (turned k m f, f + cntTo m 21, 0) := by
  unfold turn at h ⊢
  cases h1 : goodKeys k with
  | false => rw [h1] at h; simp at h
  | true =>
    by_cases h2 : m < 2097152
    · cases h3 : free k f (cntTo m 21) with
      | false => rw [h1, h3] at h; simp [h2] at h
      | true =>
        cases h4 : allN 21 (fun v => inB m v || decide (stp k v < 255)) with
        | false => rw [h1, h3, h4] at h; simp [h2] at h
        | true =>
          refine ⟨rfl, h2, rfl, fun v hv => ?_, by simp [h2]⟩
          have := allN_iff.1 h4 v hv
          simpa using this
    · rw [h1] at h; simp [h2] at h
theorem turned_get (k : Keys) (m f : Int) (v : Nat) (hv : v < 21) : Arr.get (turned k m f) (v : Int) = turnedAt k m f v := by
  rw [turned, get_make _ _ (by omega) (by omega)]; simp
section
variable {k : Keys} {m f : Int} (hk : goodKeys k = true) (hfr : free k f (cntTo m 21) = true) (hst : ∀ v : Nat, v < 21 → inB m v = true ∨ stp k v < 255)
include hfr in
theorem fresh_bounds {v : Nat} (hv : v < 21) (hin : inB m v = true) : f ≤ (turnedAt k m f v).Base ∧ (turnedAt k m f v).Base < f + cntTo m 21 ∧ 1 ≤ f ∧ f + cntTo m 21 ≤ 32768 ∧ (turnedAt k m f v).Step = 0 ∧ ∀ w : Nat, w < 21 → bas k w ≠ (turnedAt k m f v).Base := by
  obtain ⟨h1, h2, h3⟩ := cnt_in hv hin
  rcases free_cnt hfr with h | ⟨h5, h6, h7⟩
  · omega
  · unfold turnedAt
    rw [if_pos hin]
    refine ⟨?_, ?_, h5, ?_, rfl, fun w hw he => h7 w hw ?_⟩
    · simp only; omega
    · simp only; omega
    · omega
    · rw [he]; simp only; omega
theorem kept_at {v : Nat} (hin : ¬ inB m v = true) : turnedAt k m f v = ⟨bas k v, stp k v + 1⟩ := by unfold turnedAt; rw [if_neg hin]
include hk hfr hst in
theorem good_turnedAt {v : Nat} (hv : v < 21) : good (turnedAt k m f v) = true ∧ (turnedAt k m f v).Base < 32768 := by
  by_cases hin : inB m v = true
  · have := fresh_bounds hfr (k := k) hv hin
    exact ⟨good_iff.2 ⟨by omega, by omega, by omega, by omega⟩, by omega⟩
  · have h := goodKeys_iff.1 hk v hv
    have hg := good_iff.1 h.1
    have hs : stp k v < 255 := (hst v hv).resolve_left hin
    rw [kept_at hin]
    exact ⟨good_iff.2 ⟨hg.1, hg.2.1, by simp only [stp]; omega, by simp only [stp] at hs ⊢; omega⟩, h.2.1⟩
include hk hfr in
theorem turned_ne {v w : Nat} (hv : v < 21) (hw : w < v) : (turnedAt k m f w).Base ≠ (turnedAt k m f v).Base := by
  by_cases hin : inB m v = true
  · have hb := fresh_bounds hfr (k := k) hv hin
    by_cases hin2 : inB m w = true
    · have h1 := cnt_in hv hin
      have h2 := (cntTo_mono m (show w + 1 ≤ v by omega)).1
      unfold turnedAt
      rw [if_pos hin, if_pos hin2]
      simp only; omega
    · rw [kept_at hin2]
      exact hb.2.2.2.2.2 w (by omega)
  · rw [kept_at hin]
    by_cases hin2 : inB m w = true
    · have hb := fresh_bounds hfr (k := k) (v := w) (by omega) hin2
      exact fun he => hb.2.2.2.2.2 v hv he.symm
    · rw [kept_at hin2]
      exact (goodKeys_iff.1 hk v hv).2.2 w hw
include hk hfr hst in
theorem goodKeys_turned : goodKeys (turned k m f) = true := goodKeys_iff.2 fun v hv => by
  have h := good_turnedAt hk hfr hst hv
  simp only [bas]
  rw [turned_get _ _ _ _ hv]
  refine ⟨h.1, h.2, fun w hw => ?_⟩
  rw [turned_get _ _ _ _ (by omega)]
  exact turned_ne hk hfr hv hw
end
/-! ### Turns that replace nothing -/
theorem u64_lo (n : Int) : 0 ≤ IntKind.u64.wrap n := by
  simp [IntKind.wrap, IntKind.bits, IntKind.signed]; omega
theorem tmod_wrap (n : Int) (b : Int) (hb : 0 < b) (hb2 : b ≤ 1000) : 0 ≤ IntKind.i64.wrap (Int.tmod (IntKind.u64.wrap n) b) ∧ IntKind.i64.wrap (Int.tmod (IntKind.u64.wrap n) b) < b := by
  have := u64_lo n
  rw [Int.tmod_eq_emod_of_nonneg this]
  have h1 := Int.emod_nonneg (IntKind.u64.wrap n) (show b ≠ 0 by omega)
  have h2 := Int.emod_lt_of_pos (IntKind.u64.wrap n) hb
  rw [i64_in _ (by omega)]; omega
end Go.Co.N
end

section
namespace Go.Co.N
open Go Go.Co

/-! ### Shapes -/
theorem eq_ref01_Node : Eqs c_ref01_Node g_ref01_Node := Eqs.tot fun (v, _) _ => by
  change Int at v
  simp only [g_ref01_Node, node]
  cases decide (0 ≤ v) <;> rfl
theorem eq_ref01_Child : Eqs c_ref01_Child g_ref01_Child := Eqs.tot fun (v, i, _) _ => by
  change Int at v i
  simp only [g_ref01_Child, child]
  by_cases h1 : v < 0
  · rw [if_neg (by omega)]; simp [h1]
  by_cases h2 : 21 ≤ v
  · rw [if_neg (by omega)]; simp [h1, h2]
  by_cases h3 : i < 0
  · rw [if_neg (by omega)]; simp [h1, h2, h3]
  by_cases h4 : 4 ≤ i
  · rw [if_neg (by omega)]; simp [h1, h2, h3, h4]
  rw [if_pos (by omega), i64_in (4 * v) (by omega), i64_in (4 * v + 1) (by omega), i64_in _ (by omega)]
  simp [h1, h2, h3, h4]
theorem leaf_eq (s : Int) : (bif decide (s < 0) then some ((-1 : Int), ()) else bif decide (64 ≤ s) then some (-1, ()) else some (IntKind.i64.wrap (21 + s), ())) = some (leaf s, ()) := by
  unfold leaf
  by_cases h1 : s < 0
  · rw [if_neg (by omega)]; simp [h1]
  by_cases h2 : 64 ≤ s
  · rw [if_neg (by omega)]; simp [h1, h2]
  rw [if_pos (by omega), i64_in _ (by omega)]
  simp [h1, h2]
theorem eq_ref01_Leaf : Eqs c_ref01_Leaf g_ref01_Leaf := Eqs.tot fun (s, _) _ => leaf_eq s
theorem eq_shape_Leaf : Eqs c_shape_Leaf g_shape_Leaf := Eqs.tot fun (s, _) _ => leaf_eq s
theorem eq_shape_Slot : Eqs c_shape_Slot g_shape_Slot := Eqs.tot fun (s, _) _ => by
  change Int at s
  simp only [g_shape_Slot, slot]
  by_cases h1 : s < 21
  · rw [if_neg (by omega)]; simp [h1]
  by_cases h2 : 85 ≤ s
  · rw [if_neg (by omega)]; simp [h1, h2]
  rw [if_pos (by omega), i64_in _ (by omega)]
  simp [h1, h2]
theorem leaf_in {s : Nat} (h : s < 64) : leaf (s : Int) = 21 + s := by unfold leaf; rw [if_pos (by omega)]
theorem leaf_pos {s : Int} : 0 ≤ leaf s ↔ 0 ≤ s ∧ s < 64 := by
  unfold leaf
  by_cases h : 0 ≤ s ∧ s < 64
  · rw [if_pos h]; omega
  · rw [if_neg h]; omega
theorem eq_ref01_Parent : Eqs c_ref01_Parent g_ref01_Parent := Eqs.tot fun (v, _) _ => by
  change Int at v
  simp only [g_ref01_Parent, par]
  by_cases h1 : v < 1
  · rw [if_neg (by omega)]; simp [h1]
  by_cases h2 : 85 ≤ v
  · rw [if_neg (by omega)]; simp [h1, h2]
  rw [if_pos (by omega)]
  simp only [h1, h2, decide_false, cond_false]
  have inner : ∀ p : Nat, p < 21 → lfp g_ref01_Parent_r2 ((v, (p : Int), 0, ()), (), ()) = some (match fstN 4 (fun i => decide (child p i = v)) 0 with | some _ => .inl (((p : Int), ()), (), ()) | none => .inr ((v, (p : Int), ()), (), ())) := fun p hp =>
    lfp_find' (fun i => ((v, (p : Int), (i : Int), ()), (), ())) 4 (fun i => decide (child p i = v)) (fun _ => Sum.inl (((p : Int), ()), (), ())) _ rfl
      (fun i hi hb => by
        have g1 : (i : Int) < 4 := by omega
        simp only [g_ref01_Parent_r2, g1, decide_true, cond_true, hb, cond_false, wrap1 i (by omega)])
      (fun i hi hb => by
        have g1 : (i : Int) < 4 := by omega
        simp only [g_ref01_Parent_r2, g1, decide_true, cond_true, hb])
      (by simp [g_ref01_Parent_r2])
  have hch : ∀ p i : Nat, p < 21 → i < 4 → child p i = 4 * p + 1 + i := fun p i hp hi => by unfold child; rw [if_pos (by omega)]
  have hin : ∀ p : Nat, p < 21 → lfp g_ref01_Parent_r2 ((v, (p : Int), 0, ()), (), ()) = some (bif decide (4 * (p : Int) + 1 ≤ v ∧ v ≤ 4 * p + 4) then .inl (((p : Int), ()), (), ()) else .inr ((v, (p : Int), ()), (), ())) := fun p hp => by
    rw [inner p hp]
    cases hf : fstN 4 (fun i => decide (child p i = v)) 0 with
    | some i =>
      obtain ⟨_, hi, hb, _⟩ := fstN_some hf
      simp only [decide_eq_true_eq] at hb
      rw [hch p i hp (by omega)] at hb
      have : 4 * (p : Int) + 1 ≤ v ∧ v ≤ 4 * p + 4 := by omega
      simp [this]
    | none =>
      have hn := fstN_none hf
      have : ¬ (4 * (p : Int) + 1 ≤ v ∧ v ≤ 4 * p + 4) := fun h => by
        have := hn (v - 4 * p - 1).toNat (by omega) (by omega)
        simp only [decide_eq_false_iff_not] at this
        exact this (by rw [hch p _ hp (by omega)]; omega)
      simp [this]
  rw [lfp_find' (fun p => ((v, (p : Int), ()), (), ())) 21 (fun p => decide (4 * (p : Int) + 1 ≤ v ∧ v ≤ 4 * p + 4)) (fun p => Sum.inl (((p : Int), ()), (), ())) (.inr ((), (), ())) (by rfl)
    (fun p hp hb => by
      have g1 : (p : Int) < 21 := by omega
      have := hin p hp
      rw [hb] at this
      simp only [g_ref01_Parent_r1, g1, decide_true, cond_true, this, cond_false, Option.bind_some, Sum.elim_inr, wrap1 p (by omega)])
    (fun p hp hb => by
      have g1 : (p : Int) < 21 := by omega
      have := hin p hp
      rw [hb] at this
      simp only [g_ref01_Parent_r1, g1, decide_true, cond_true, this, Option.bind_some, Sum.elim_inl])
    (by simp [g_ref01_Parent_r1])]
  cases hf : fstN 21 (fun p => decide (4 * (p : Int) + 1 ≤ v ∧ v ≤ 4 * p + 4)) 0 with
  | some p =>
    obtain ⟨_, hi, hb, _⟩ := fstN_some hf
    simp only [decide_eq_true_eq] at hb
    simp only [Option.bind_some, Sum.elim_inl, Option.some.injEq, Prod.mk.injEq, and_true]
    omega
  | none =>
    have := fstN_none hf ((v - 1) / 4).toNat (by omega) (by omega)
    simp only [decide_eq_false_iff_not] at this
    omega
theorem par_in {v : Int} (h1 : 1 ≤ v) (h2 : v < 85) : par v = (v - 1) / 4 := by unfold par; rw [if_pos ⟨h1, h2⟩]
theorem par_out {v : Int} (h : v < 1) : par v = -1 := by unfold par; rw [if_neg (by omega)]
theorem eq_shape_Path : Eqs c_shape_Path g_shape_Path := Eqs.tot fun (s, _) _ => by
  change Int at s
  simp only [g_shape_Path]
  by_cases h : 0 ≤ leaf s
  · have hs := leaf_pos.1 h
    have hn : ¬ leaf s < 0 := by omega
    simp only [hn, h, decide_false, decide_true, cond_false, cond_true]
    rw [lfp_run' (fun i => ((s, (), (), (i : Int), ()), (zero3, fillTo 0 (pathAt s) i, ()), ())) 3 (by rw [fill_0]; rfl) fun i hi => by
      have g1 : (i : Int) < 3 := by omega
      rw [← fill_put (n := 3) (0 : Int) (pathAt s) i hi]
      have : i = 0 ∨ i = 1 ∨ i = 2 := by omega
      have wn : ∀ n : Int, 0 ≤ n → n ≤ 10 → IntKind.i64.wrap n = n := fun n h1 h2 => i64_in _ (by omega)
      have w0 := wn 0 (by omega) (by omega)
      have w1 := wn 1 (by omega) (by omega)
      have w2 := wn 2 (by omega) (by omega)
      have w3 := wn 3 (by omega) (by omega)
      have w4 := wn 4 (by omega) (by omega)
      have w6 := wn 6 (by omega) (by omega)
      have k2 : shrI IntKind.i64 s 2 = s / 4 := by unfold shrI; rw [Int.fdiv_eq_ediv_of_nonneg _ (by decide)]; rfl
      have k4 : shrI IntKind.i64 s 4 = s / 16 := by unfold shrI; rw [Int.fdiv_eq_ediv_of_nonneg _ (by decide)]; rfl
      have k6 : shrI IntKind.i64 s 6 = 0 := by unfold shrI; rw [Int.fdiv_eq_ediv_of_nonneg _ (by decide)]; show s / 64 = 0; omega
      rcases this with rfl | rfl | rfl
      · simp [g_shape_Path_r1, w1, w2, k2, firstOf, pathAt]
        rw [i64_in _ (by omega)]
      · simp [g_shape_Path_r1, w1, w2, w4, k4, firstOf, pathAt]
        rw [i64_in _ (by omega)]
      · simp [g_shape_Path_r1, w0, w3, w6, k6, firstOf, pathAt]]
    rw [lfp_inr (z := (((), (), ()), (zero3, pathN s, ()), ())) (by simp [g_shape_Path_r1, fill_n, pathN])]
    simp
  · have hn : leaf s < 0 := by omega
    simp [h, hn]
theorem eq_ref01_Below : Eqs c_ref01_Below g_ref01_Below := Eqs.tot fun (v, w, _) _ => by
  change Int at v w
  simp only [g_ref01_Below, below]
  cases hv : node v with
  | false => simp
  | true =>
    cases hw : node w with
    | false => simp
    | true =>
      have hv := node_iff.1 hv
      have hw := node_iff.1 hw
      have step : ∀ w : Int, lfp g_ref01_Below_r1 ((v, w, ()), (), ()) = if v < w then lfp g_ref01_Below_r1 ((v, par w, ()), (), ()) else some ((v, w, ()), (), ()) := fun w => by
        by_cases h : v < w
        · rw [if_pos h, lfp_inl (by simp only [g_ref01_Below_r1, h, decide_true, cond_true]; rfl)]
        · rw [if_neg h]; exact lfp_inr (by simp [g_ref01_Below_r1, h])
      have f1 : ∀ w : Int, -1 ≤ w → w < 85 → -1 ≤ par w ∧ (1 ≤ w → par w = (w - 1) / 4) ∧ (w < 1 → par w = -1) := fun w h1 h2 => by
        refine ⟨?_, fun h => par_in h h2, fun h => par_out h⟩
        by_cases h : 1 ≤ w
        · rw [par_in h h2]; omega
        · rw [par_out (by omega)]; omega
      have a1 := f1 w (by omega) hw.2
      have a2 := f1 (par w) (by omega) (by omega)
      have a3 := f1 (par (par w)) (by omega) (by omega)
      have a4 := f1 (par (par (par w))) (by omega) (by omega)
      simp only [Bool.not_true, cond_false, Bool.true_and]
      rw [step w]
      split
      · rw [step (par w)]
        split
        · rw [step (par (par w))]
          split
          · rw [step (par (par (par w))), if_neg (by omega)]
            simp only [Option.bind_some, Option.some.injEq, Prod.mk.injEq, and_true]
            apply bool_eq; simp only [decide_eq_true_eq, Bool.or_eq_true]; omega
          · simp only [Option.bind_some, Option.some.injEq, Prod.mk.injEq, and_true]
            apply bool_eq; simp only [decide_eq_true_eq, Bool.or_eq_true]; omega
        · simp only [Option.bind_some, Option.some.injEq, Prod.mk.injEq, and_true]
          apply bool_eq; simp only [decide_eq_true_eq, Bool.or_eq_true]; omega
      · simp only [Option.bind_some, Option.some.injEq, Prod.mk.injEq, and_true]
        apply bool_eq; simp only [decide_eq_true_eq, Bool.or_eq_true]; omega
theorem eq_shape_first : Eqs c_shape_first g_shape_first := fun (l, _) y _ h => by
  change Int at l
  simp only [guardK] at h
  have hl : 0 ≤ l ∧ l ≤ 3 := by
    cases hc : (decide (0 ≤ l) && decide (l ≤ 3)) with
    | true => simpa using hc
    | false => rw [hc] at h; cases h
  have hc : (decide (0 ≤ l) && decide (l ≤ 3)) = true := by simpa using hl
  rw [hc] at h
  rw [← h]
  have : l = 0 ∨ l = 1 ∨ l = 2 ∨ l = 3 := by omega
  rcases this with rfl | rfl | rfl | rfl <;> rfl
theorem level_in {v : Int} (h0 : 0 ≤ v) (h1 : v < 85) : (v < 1 ∧ level v = 0) ∨ (1 ≤ v ∧ v < 5 ∧ level v = 1) ∨ (5 ≤ v ∧ v < 21 ∧ level v = 2) ∨ (21 ≤ v ∧ level v = 3) := by
  unfold level
  rw [if_pos ⟨h0, h1⟩]
  by_cases h2 : v < 1
  · exact .inl ⟨h2, by rw [if_pos h2]⟩
  by_cases h3 : v < 5
  · exact .inr (.inl ⟨by omega, h3, by rw [if_neg h2, if_pos h3]⟩)
  by_cases h4 : v < 21
  · exact .inr (.inr (.inl ⟨by omega, h4, by rw [if_neg h2, if_neg h3, if_pos h4]⟩))
  · exact .inr (.inr (.inr ⟨by omega, by rw [if_neg h2, if_neg h3, if_neg h4]⟩))
theorem level_out {v : Int} (h : ¬ (0 ≤ v ∧ v < 85)) : level v = -1 := by unfold level; rw [if_neg h]
theorem eq_shape_Level : Eqs c_shape_Level g_shape_Level := Eqs.tot fun (v, _) _ => by
  change Int at v
  simp only [g_shape_Level]
  by_cases h1 : v < 0
  · rw [level_out (by omega)]; simp [h1]
  by_cases h2 : 85 ≤ v
  · rw [level_out (by omega)]; simp [h1, h2]
  simp only [h1, h2, decide_false, cond_false]
  have w3 : IntKind.i64.wrap (3 - 1) = 2 := by decide
  have w2 : IntKind.i64.wrap (2 - 1) = 1 := by decide
  have w1 : IntKind.i64.wrap (1 - 1) = 0 := by decide
  have down : ∀ l : Int, 0 ≤ l → l ≤ 3 → ¬ firstOf l ≤ v → lfp g_shape_Level_r1 ((v, l, ()), (), ()) = lfp g_shape_Level_r1 ((v, IntKind.i64.wrap (l - 1), ()), (), ()) := fun l g0 g3 g => lfp_inl (by
    simp [g_shape_Level_r1, g0, g3, g])
  have here : ∀ l : Int, 0 ≤ l → l ≤ 3 → firstOf l ≤ v → lfp g_shape_Level_r1 ((v, l, ()), (), ()) = some ((l, ()), (), ()) := fun l g0 g3 g => lfp_inr (by
    simp [g_shape_Level_r1, g0, g3, g])
  have e3 : firstOf 3 = 21 := rfl
  have e2 : firstOf 2 = 5 := rfl
  have e1 : firstOf 1 = 1 := rfl
  have e0 : firstOf 0 = 0 := rfl
  rcases level_in (v := v) (by omega) (by omega) with ⟨g, hl⟩ | ⟨g, g', hl⟩ | ⟨g, g', hl⟩ | ⟨g, hl⟩
  · rw [down 3 (by omega) (by omega) (by omega), w3, down 2 (by omega) (by omega) (by omega), w2, down 1 (by omega) (by omega) (by omega), w1, here 0 (by omega) (by omega) (by omega), hl]; rfl
  · rw [down 3 (by omega) (by omega) (by omega), w3, down 2 (by omega) (by omega) (by omega), w2, here 1 (by omega) (by omega) (by omega), hl]; rfl
  · rw [down 3 (by omega) (by omega) (by omega), w3, here 2 (by omega) (by omega) (by omega), hl]; rfl
  · rw [here 3 (by omega) (by omega) (by omega), hl]; rfl
theorem eq_shape_span : Eqs c_shape_span g_shape_span := fun (v, _) y _ h => by
  change Int at v
  simp only [guardK] at h
  have hv : node v = true := by
    cases hc : node v with
    | true => rfl
    | false => rw [hc] at h; cases h
  rw [hv] at h
  rw [← h]
  have hv := node_iff.1 hv
  have s0 : IntKind.i64.wrap (2 * IntKind.i64.wrap (3 - 0)) = 6 := by decide
  have s1 : IntKind.i64.wrap (2 * IntKind.i64.wrap (3 - 1)) = 4 := by decide
  have s2 : IntKind.i64.wrap (2 * IntKind.i64.wrap (3 - 2)) = 2 := by decide
  have s3 : IntKind.i64.wrap (2 * IntKind.i64.wrap (3 - 3)) = 0 := by decide
  have e3 : firstOf 3 = 21 := rfl
  have e2 : firstOf 2 = 5 := rfl
  have e1 : firstOf 1 = 1 := rfl
  have e0 : firstOf 0 = 0 := rfl
  have u3 : widthOf 3 = 1 := rfl
  have u2 : widthOf 2 = 4 := rfl
  have u1 : widthOf 1 = 16 := rfl
  have u0 : widthOf 0 = 64 := rfl
  have k0 : shlI IntKind.i64 1 6 = 64 := by decide
  have k1 : shlI IntKind.i64 1 4 = 16 := by decide
  have k2 : shlI IntKind.i64 1 2 = 4 := by decide
  have k3 : shlI IntKind.i64 1 0 = 1 := by decide
  have sh : ∀ (x : Int) (k : Nat), k ≤ 6 → -100 ≤ x → x ≤ 100 → shlI IntKind.i64 x (k : Int) = x * 2 ^ k := fun x k hk g0 g1 => by
    unfold shlI
    have : min (Int.toNat (k : Int)) IntKind.i64.bits = k := by simp [IntKind.bits]; omega
    rw [this]
    have : k = 0 ∨ k = 1 ∨ k = 2 ∨ k = 3 ∨ k = 4 ∨ k = 5 ∨ k = 6 := by omega
    rcases this with rfl | rfl | rfl | rfl | rfl | rfl | rfl <;> exact i64_in _ (by omega)
  simp only [g_shape_span, spanOf]
  rcases level_in hv.1 hv.2 with ⟨g, hl⟩ | ⟨g, g', hl⟩ | ⟨g, g', hl⟩ | ⟨g, hl⟩
  · rw [hl, s0, e0, u0, k0]
    simp
    rw [i64_in v (by omega)]
    have := sh v 6 (by omega) (by omega) (by omega)
    rw [show ((6 : Nat) : Int) = 6 from rfl] at this
    rw [this]; omega
  · rw [hl, s1, e1, u1, k1]
    simp
    rw [i64_in (v - 1) (by omega)]
    have := sh (v - 1) 4 (by omega) (by omega) (by omega)
    rw [show ((4 : Nat) : Int) = 4 from rfl] at this
    rw [this]; omega
  · rw [hl, s2, e2, u2, k2]
    simp
    rw [i64_in (v - 5) (by omega)]
    have := sh (v - 5) 2 (by omega) (by omega) (by omega)
    rw [show ((2 : Nat) : Int) = 2 from rfl] at this
    rw [this]; omega
  · rw [hl, s3, e3, u3, k3]
    simp
    rw [i64_in (v - 21) (by omega)]
    have := sh (v - 21) 0 (by omega) (by omega) (by omega)
    rw [show ((0 : Nat) : Int) = 0 from rfl] at this
    rw [this]; omega
def maskF (v : Int) : Int := shlI IntKind.u64 (shrI IntKind.u64 18446744073709551615 (IntKind.wrap IntKind.u64 (64 - IntKind.wrap IntKind.u64 (spanOf v).2))) (IntKind.wrap IntKind.u64 (spanOf v).1)
theorem mask_all : allN 85 (fun v => decide (maskF v = mask v)) = true := by decide +kernel
theorem word_false {p : Nat → Bool} : ∀ n : Nat, (∀ i, i < n → p i = false) → word p n = 0
  | 0, _ => rfl
  | n + 1, h => by simp only [word]; rw [word_false n (fun i hi => h i (by omega)), h n (by omega)]; rfl
theorem eq_shape_Mask : Eqs c_shape_Mask g_shape_Mask := Eqs.tot fun (v, _) _ => by
  change Int at v
  simp only [g_shape_Mask]
  by_cases h : 0 ≤ v ∧ v < 85
  · have hn : node v = true := node_iff.2 h
    have hl : ¬ level v < 0 := by
      rcases level_in h.1 h.2 with ⟨_, hl⟩ | ⟨_, _, hl⟩ | ⟨_, _, hl⟩ | ⟨_, hl⟩ <;> omega
    simp only [hl, hn, decide_false, cond_false, cond_true, Option.bind_some]
    have := allN_iff.1 mask_all v.toNat (by omega)
    simp only [decide_eq_true_eq] at this
    rw [Int.toNat_of_nonneg h.1] at this
    rw [← this]; rfl
  · have hl := level_out h
    have hn : node v = false := Bool.eq_false_iff.2 fun hn => h (node_iff.1 hn)
    have : mask v = 0 := by
      unfold mask
      rw [word_false 64 fun i _ => by simp [below, hn]]; rfl
    simp [hl, this]
end Go.Co.N
end

section
namespace Go.Co.N
open Go Go.Co

/-! ### Words of slots -/
theorem word_lt (p : Nat → Bool) : ∀ n, word p n < 2 ^ n
  | 0 => by simp [word]
  | n + 1 => by
    have := word_lt p n
    simp only [word, Nat.pow_succ]
    cases p n <;> simp <;> omega
theorem word_bit (p : Nat → Bool) : ∀ n i : Nat, (word p n).testBit i = (decide (i < n) && p i)
  | 0, i => by simp [word]
  | n + 1, i => by
    have hlt := word_lt p n
    simp only [word]
    cases hp : p n with
    | false =>
      simp only [cond_false, Nat.add_zero]
      rw [word_bit p n i]
      by_cases hi : i = n
      · subst hi; simp [hp]
      · have : decide (i < n + 1) = decide (i < n) := by congr 1; simp only [eq_iff_iff]; omega
        rw [this]
    | true =>
      simp only [cond_true]
      rw [Nat.add_comm, show 2 ^ n + word p n = 2 ^ n * 1 + word p n by omega, Nat.two_pow_add_eq_or_of_lt hlt, Nat.testBit_or, word_bit p n i, Nat.mul_one, Nat.testBit_two_pow]
      by_cases hi : i = n
      · subst hi; simp [hp]
      · have : decide (i < n + 1) = decide (i < n) := by congr 1; simp only [eq_iff_iff]; omega
        rw [this]
        have h2 : decide (n = i) = false := by simp; omega
        rw [h2]; simp
theorem bwN {op : BinOp} {f : Nat → Nat → Nat} (hf : ∀ a b, a < 18446744073709551616 → b < 18446744073709551616 → f a b < 18446744073709551616)
    (hop : ∀ a b : Nat, a < 18446744073709551616 → b < 18446744073709551616 → (match op with | .and => BitVec.ofNat 64 a &&& BitVec.ofNat 64 b | .or => BitVec.ofNat 64 a ||| BitVec.ofNat 64 b | .xor => BitVec.ofNat 64 a ^^^ BitVec.ofNat 64 b | _ => BitVec.ofNat 64 a &&& ~~~BitVec.ofNat 64 b).toNat = f a b)
    (n m : Nat) (hn : n < 18446744073709551616) (hm : m < 18446744073709551616) : bw op .u64 (n : Int) (m : Int) = ((f n m : Nat) : Int) := by
  have e1 : BitVec.ofInt IntKind.u64.bits (n : Int) = BitVec.ofNat 64 n := by simp [IntKind.bits]
  have e2 : BitVec.ofInt IntKind.u64.bits (m : Int) = BitVec.ofNat 64 m := by simp [IntKind.bits]
  have h := hop n m hn hm
  have hl := hf n m hn hm
  unfold bw
  simp only [e1, e2]
  show IntKind.u64.wrap (((match op with | .and => BitVec.ofNat 64 n &&& BitVec.ofNat 64 m | .or => BitVec.ofNat 64 n ||| BitVec.ofNat 64 m | .xor => BitVec.ofNat 64 n ^^^ BitVec.ofNat 64 m | _ => BitVec.ofNat 64 n &&& ~~~BitVec.ofNat 64 m).toNat : Nat) : Int) = _
  rw [h, Go.IntWalk.u64_in _ (by omega)]
theorem bw_and64 (n m : Nat) (hn : n < 18446744073709551616) (hm : m < 18446744073709551616) : bw .and .u64 (n : Int) (m : Int) = ((n &&& m : Nat) : Int) :=
  bwN (f := fun a b => a &&& b) (fun a b ha _ => Nat.lt_of_le_of_lt Nat.and_le_left ha) (fun a b ha hb => by
    show (BitVec.ofNat 64 a &&& BitVec.ofNat 64 b).toNat = _
    simp [BitVec.toNat_and, Nat.mod_eq_of_lt ha, Nat.mod_eq_of_lt hb]) n m hn hm
theorem bw_or64 (n m : Nat) (hn : n < 18446744073709551616) (hm : m < 18446744073709551616) : bw .or .u64 (n : Int) (m : Int) = ((n ||| m : Nat) : Int) :=
  bwN (f := fun a b => a ||| b) (fun a b ha hb => Nat.or_lt_two_pow (n := 64) ha hb) (fun a b ha hb => by
    show (BitVec.ofNat 64 a ||| BitVec.ofNat 64 b).toNat = _
    simp [BitVec.toNat_or, Nat.mod_eq_of_lt ha, Nat.mod_eq_of_lt hb]) n m hn hm
theorem word_64 (p : Nat → Bool) : word p 64 < 18446744073709551616 := word_lt p 64
theorem word_up (p : Nat → Bool) {n : Nat} (h : n ≤ 64) : word p n < 18446744073709551616 := Nat.lt_of_lt_of_le (word_lt p n) (Nat.pow_le_pow_right (by omega) h : 2 ^ n ≤ 2 ^ 64)
theorem shl_one64 (i : Nat) (h : i < 64) : shlI .u64 1 (IntKind.u64.wrap (i : Int)) = ((2 ^ i : Nat) : Int) := by
  rw [Go.IntWalk.u64_in _ (by omega)]
  unfold shlI
  have : min (Int.toNat (i : Int)) IntKind.u64.bits = i := by simp [IntKind.bits]; omega
  rw [this, Int.one_mul]
  have h2 : (2 : Nat) ^ i < 2 ^ 64 := Nat.pow_lt_pow_right (by omega) h
  have h3 : ((2 : Int) ^ i) = ((2 ^ i : Nat) : Int) := by simp
  rw [h3]
  generalize 2 ^ i = x at h2
  exact Go.IntWalk.u64_in _ (by omega)
/-- A set with one slot more. -/
theorem word_or (p : Nat → Bool) (i : Nat) (h : i < 64) : bw .or .u64 (word p i : Nat) (shlI .u64 1 (IntKind.u64.wrap (i : Int))) = ((word p i + 2 ^ i : Nat) : Int) := by
  have h2 : (2 : Nat) ^ i < 2 ^ 64 := Nat.pow_lt_pow_right (by omega) h
  rw [shl_one64 i h, bw_or64 _ _ (word_up p (by omega)) h2]
  congr 1
  rw [Nat.or_comm, Nat.add_comm, show 2 ^ i + word p i = 2 ^ i * 1 + word p i by omega, Nat.two_pow_add_eq_or_of_lt (word_lt p i), Nat.mul_one]
theorem word_and (p q : Nat → Bool) : bw .and .u64 (word p 64 : Nat) (word q 64 : Nat) = ((word (fun i => p i && q i) 64 : Nat) : Int) := by
  rw [bw_and64 _ _ (word_64 p) (word_64 q)]
  congr 1
  apply Nat.eq_of_testBit_eq
  intro i
  rw [Nat.testBit_and, word_bit, word_bit, word_bit]
  cases decide (i < 64) <;> cases p i <;> cases q i <;> rfl
theorem word_0 {p : Nat → Bool} {n : Nat} : word p n = 0 ↔ ∀ i, i < n → p i = false := by
  constructor
  · intro h i hi
    have := word_bit p n i
    rw [h] at this
    simp [hi] at this; simp [this]
  · exact word_false n

/-! ### Rosters -/
theorem eq_roster_right : Eqs c_roster_right g_roster_right := Eqs.tot fun (e, _) _ => by
  have h1 : decide (0 < e.Base) = decide (1 ≤ e.Base) := by congr 1
  have h2 : decide (0 < e.Since) = decide (1 ≤ e.Since) := by congr 1
  simp only [g_roster_right, goodE, h1, h2]
  cases decide (0 ≤ e.Who) <;> cases decide (e.Who < 256) <;> cases decide (1 ≤ e.Base) <;> cases decide (e.Base < 32768) <;> cases decide (1 ≤ e.Since) <;> rfl
theorem eq_ref09_Right : Eqs c_ref09_Right g_ref09_Right := Eqs.tot fun (e, _) _ => by
  simp only [g_ref09_Right, goodE]
  cases decide (0 ≤ e.Who) <;> cases decide (e.Who < 256) <;> cases decide (1 ≤ e.Base) <;> cases decide (e.Base < 32768) <;> cases decide (1 ≤ e.Since) <;> rfl
/-- A map that counts those places that are asked for. -/
def cmapP (p : Nat → Bool) (g : Nat → Int) : Nat → List (Int × Int)
  | 0 => []
  | i + 1 => bif p i then mput (cmapP p g i) (g i) ((mget (cmapP p g i) (g i)).getD 0 + 1) else cmapP p g i
theorem cmapP_get (p : Nat → Bool) (g : Nat → Int) (b : Int) : ∀ i, 0 ≤ (mget (cmapP p g i) b).getD 0 ∧ (mget (cmapP p g i) b).getD 0 ≤ i ∧ ((mget (cmapP p g i) b).getD 0 = 0 ↔ ∀ j, j < i → p j = true → g j ≠ b)
  | 0 => by simp [cmapP, mget]
  | i + 1 => by
    obtain ⟨h1, h2, h3⟩ := cmapP_get p g b i
    simp only [cmapP]
    cases hp : p i with
    | false =>
      simp only [cond_false]
      refine ⟨h1, by omega, h3.trans ⟨fun h j hj hpj => ?_, fun h j hj => h j (by omega)⟩⟩
      by_cases he : j = i
      · subst he; rw [hp] at hpj; cases hpj
      · exact h j (by omega) hpj
    | true =>
      simp only [cond_true]
      rw [mget_mput]
      by_cases hb : g i = b
      · rw [if_pos hb, hb]
        simp only [Option.getD_some]
        refine ⟨by omega, by omega, ⟨fun h => by omega, fun h => absurd hb (h i (by omega) hp)⟩⟩
      · simp only [if_neg hb]
        refine ⟨h1, by omega, h3.trans ⟨fun h j hj hpj => ?_, fun h j hj => h j (by omega)⟩⟩
        by_cases he : j = i
        · subst he; exact hb
        · exact h j (by omega) hpj
theorem cmapP_succ (p : Nat → Bool) (g : Nat → Int) (i : Nat) (h : i < 1000000) (hp : p i = true) : mput (cmapP p g i) (g i) (IntKind.i64.wrap ((mget (cmapP p g i) (g i)).getD 0 + 1)) = cmapP p g (i + 1) := by
  have := cmapP_get p g (g i) i
  rw [i64_in _ (by omega)]; simp only [cmapP, hp, cond_true]
theorem cmapP_twice (p : Nat → Bool) (g : Nat → Int) (i : Nat) (hp : p i = true) : (1 < (mget (cmapP p g (i + 1)) (g i)).getD 0) ↔ ¬ ∀ j, j < i → p j = true → g j ≠ g i := by
  have := cmapP_get p g (g i) i
  simp only [cmapP, hp, cond_true]
  rw [mget_mput, if_pos rfl]
  simp only [Option.getD_some]
  rw [← this.2.2]
  omega
theorem entOk_zero {r : Roster} {i : Nat} (h : ent r i = zeroE) : entOk r i = true := by simp [entOk, h]
theorem entOk_iff {r : Roster} {i : Nat} (h : ¬ ent r i = zeroE) : entOk r i = true ↔ goodE (ent r i) = true ∧ ∀ k, k < i → (ent r k).Base = 0 ∨ ((ent r k).Who ≠ (ent r i).Who ∧ (ent r k).Base ≠ (ent r i).Base) := by
  unfold entOk
  simp only [h, decide_false, Bool.false_or, Bool.and_eq_true, allN_iff, Bool.or_eq_true, decide_eq_true_eq, Bool.not_eq_true', decide_eq_false_iff_not, ne_eq]
/-- Among right entries a seat is taken just if its entry isn't zero. -/
theorem entOk_base {r : Roster} {i : Nat} (h : entOk r i = true) : (ent r i).Base = 0 ↔ ent r i = zeroE := by
  constructor
  · intro hb
    by_cases hz : ent r i = zeroE
    · exact hz
    · have := goodE_iff.1 ((entOk_iff hz).1 h).1
      omega
  · intro hz; rw [hz]
theorem eq_roster_Check : Eqs c_roster_Check g_roster_Check := Eqs.tot fun (r, _) _ => by
  simp only [g_roster_Check]
  rw [lfp_allH (fun i => (((), (), r, (i : Int), ()), (), cmapP (fun j => !decide (ent r j = zeroE)) (fun j => (ent r j).Who) i, cmapP (fun j => !decide (ent r j = zeroE)) (fun j => (ent r j).Base) i, ())) 64 (entOk r) (.inl ((31, ()), (), ())) (.inr ((), (), ())) (by rfl)
    (fun i hi hj hok => by
      have h1 : (i : Int) < 64 := by omega
      simp only [g_roster_Check_r1, h1, decide_true, cond_true, Int.natCast_nonneg, Bool.and_self]
      by_cases hz : Arr.get r (i : Int) = zeroE
      · simp only [hz, decide_true, cond_true, wrap1 i (by omega), cmapP, ent, Bool.not_true, cond_false]
      · obtain ⟨hg, hn⟩ := (entOk_iff hz).1 hok
        have hp : (!decide (ent r i = zeroE)) = true := by simp [ent, hz]
        have c1 := cmapP_succ (fun j => !decide (ent r j = zeroE)) (fun j => (ent r j).Who) i (by omega) hp
        have c2 := cmapP_succ (fun j => !decide (ent r j = zeroE)) (fun j => (ent r j).Base) i (by omega) hp
        have hex : ∀ j, j < i → (!decide (ent r j = zeroE)) = true → (ent r j).Who ≠ (ent r i).Who ∧ (ent r j).Base ≠ (ent r i).Base := fun j hji hpj => by
          rcases hn j hji with h0 | h0
          · have := (entOk_base (hj j hji)).1 h0
            simp [this] at hpj
          · exact h0
        have t1 : ¬ 1 < (mget (cmapP (fun j => !decide (ent r j = zeroE)) (fun j => (ent r j).Who) (i + 1)) (ent r i).Who).getD 0 := fun h => (cmapP_twice (fun j => !decide (ent r j = zeroE)) (fun j => (ent r j).Who) i hp).1 h fun j hji hpj => (hex j hji hpj).1
        have t2 : ¬ 1 < (mget (cmapP (fun j => !decide (ent r j = zeroE)) (fun j => (ent r j).Base) (i + 1)) (ent r i).Base).getD 0 := fun h => (cmapP_twice (fun j => !decide (ent r j = zeroE)) (fun j => (ent r j).Base) i hp).1 h fun j hji hpj => (hex j hji hpj).2
        simp only [ent] at hg c1 c2 t1 t2 ⊢
        simp only [hz, decide_false, cond_false, hg, Bool.not_true]
        rw [c1, c2]
        simp only [t1, t2, decide_false, cond_false, wrap1 i (by omega)])
    (fun i hi hj hok => by
      have h1 : (i : Int) < 64 := by omega
      simp only [g_roster_Check_r1, h1, decide_true, cond_true, Int.natCast_nonneg, Bool.and_self]
      have hz : ¬ Arr.get r (i : Int) = zeroE := fun h => by rw [entOk_zero h] at hok; cases hok
      have hp : (!decide (ent r i = zeroE)) = true := by simp [ent, hz]
      have c1 := cmapP_succ (fun j => !decide (ent r j = zeroE)) (fun j => (ent r j).Who) i (by omega) hp
      have c2 := cmapP_succ (fun j => !decide (ent r j = zeroE)) (fun j => (ent r j).Base) i (by omega) hp
      have w1 := cmapP_twice (fun j => !decide (ent r j = zeroE)) (fun j => (ent r j).Who) i hp
      have w2 := cmapP_twice (fun j => !decide (ent r j = zeroE)) (fun j => (ent r j).Base) i hp
      simp only [hz, decide_false, cond_false]
      cases hg : goodE (Arr.get r (i : Int)) with
      | false => simp
      | true =>
        simp only [Bool.not_true, cond_false]
        simp only [ent] at c1 c2 w1 w2 ⊢
        rw [c1, c2]
        by_cases q1 : 1 < (mget (cmapP (fun j => !decide (Arr.get r (j : Int) = zeroE)) (fun j => (Arr.get r (j : Int)).Who) (i + 1)) (Arr.get r (i : Int)).Who).getD 0
        · simp only [q1, decide_true, cond_true]
        · by_cases q2 : 1 < (mget (cmapP (fun j => !decide (Arr.get r (j : Int) = zeroE)) (fun j => (Arr.get r (j : Int)).Base) (i + 1)) (Arr.get r (i : Int)).Base).getD 0
          · simp only [q1, q2, decide_true, decide_false, cond_true, cond_false]
          · exfalso
            have n1 := Classical.not_not.1 fun h => q1 (w1.2 h)
            have n2 := Classical.not_not.1 fun h => q2 (w2.2 h)
            have : entOk r i = true := (entOk_iff hz).2 ⟨hg, fun k hk => by
              by_cases hb : (ent r k).Base = 0
              · exact .inl hb
              · have hzk : (!decide (Arr.get r (k : Int) = zeroE)) = true := by
                  have : ¬ Arr.get r (k : Int) = zeroE := fun h => hb (by simp only [ent]; rw [h])
                  simp [this]
                exact .inr ⟨n1 k hk hzk, n2 k hk hzk⟩⟩
            rw [this] at hok; cases hok)
    (by simp [g_roster_Check_r1])]
  simp only [Option.bind_some, chkR, goodRoster]
  cases allN 64 (entOk r) <;> rfl
theorem eq_ref09_Check : Eqs c_ref09_Check g_ref09_Check := Eqs.tot fun (r, _) _ => by
  simp only [g_ref09_Check]
  have inner : ∀ v : Nat, v < 64 → lfp g_ref09_Check_r2 (((), (v : Int), 0, ()), (r, ()), ()) = some (bif allN v (fun k => decide ((ent r k).Base = 0) || (!decide ((ent r k).Who = (ent r v).Who) && !decide ((ent r k).Base = (ent r v).Base))) then .inr (((), (v : Int), ()), (r, ()), ()) else .inl ((31, ()), (), ())) := fun v hv =>
    lfp_all' (fun i => (((), (v : Int), (i : Int), ()), (r, ()), ())) v _ _ _ rfl
      (fun i hi hok => by
        have h1 : (i : Int) < v := by omega
        have h2 : (v : Int) < 64 := by omega
        have h3 : (i : Int) < 64 := by omega
        simp only [g_ref09_Check_r2, h1, h2, h3, decide_true, cond_true, Int.natCast_nonneg, Bool.and_self, wrap1 i (by omega)]
        by_cases hb : (Arr.get r (i : Int)).Base = 0
        · simp [hb]
        · have : ¬ (Arr.get r (i : Int)).Who = (Arr.get r (v : Int)).Who ∧ ¬ (Arr.get r (i : Int)).Base = (Arr.get r (v : Int)).Base := by simpa [ent, hb] using hok
          simp [hb, this.1, this.2])
      (fun i hi hok => by
        have h1 : (i : Int) < v := by omega
        have h2 : (v : Int) < 64 := by omega
        have h3 : (i : Int) < 64 := by omega
        simp only [g_ref09_Check_r2, h1, h2, h3, decide_true, cond_true, Int.natCast_nonneg, Bool.and_self]
        simp only [ent, Bool.or_eq_false_iff, decide_eq_false_iff_not] at hok
        simp only [hok.1, decide_false, Bool.not_false, cond_true]
        by_cases hw : (Arr.get r (i : Int)).Who = (Arr.get r (v : Int)).Who
        · simp [hw]
        · have : (Arr.get r (i : Int)).Base = (Arr.get r (v : Int)).Base := by
            have := hok.2; simpa [hw] using this
          simp [hw, this])
      (by simp [g_ref09_Check_r2])
  rw [lfp_all' (fun i => (((), (i : Int), ()), (r, ()), ())) 64 (entOk r) (.inl ((31, ()), (), ())) (.inr ((), (), ())) (by rfl)
    (fun i hi hok => by
      have h1 : (i : Int) < 64 := by omega
      simp only [g_ref09_Check_r1, h1, decide_true, cond_true, Int.natCast_nonneg, Bool.and_self, wrap1 i (by omega)]
      by_cases hz : Arr.get r (i : Int) = zeroE
      · simp only [hz, decide_true, cond_true]
      · have hin := inner i hi
        have hok' := hok
        unfold entOk at hok'
        simp only [hz, ent, decide_false, Bool.false_or, Bool.and_eq_true] at hok'
        simp only [ent] at hin
        rw [hok'.2] at hin
        simp only [hz, decide_false, cond_false, hok'.1, Bool.not_true, hin, cond_true, Option.bind_some, Sum.elim_inr, wrap1 i (by omega)])
    (fun i hi hok => by
      have h1 : (i : Int) < 64 := by omega
      have hz : ¬ Arr.get r (i : Int) = zeroE := fun h => by rw [entOk_zero h] at hok; cases hok
      simp only [g_ref09_Check_r1, h1, decide_true, cond_true, Int.natCast_nonneg, Bool.and_self, hz, decide_false, cond_false]
      cases hg : goodE (Arr.get r (i : Int)) with
      | false => simp
      | true =>
        have hin := inner i hi
        unfold entOk at hok
        simp only [hz, ent, decide_false, Bool.false_or, hg, Bool.true_and] at hok
        simp only [ent] at hin
        rw [hok] at hin
        simp only [Bool.not_true, cond_false, hin, Option.bind_some, Sum.elim_inl])
    (by simp [g_ref09_Check_r1])]
  simp only [Option.bind_some, chkR, goodRoster]
  cases allN 64 (entOk r) <;> rfl
theorem eq_roster_Taken : Eqs c_roster_Taken g_roster_Taken := Eqs.tot fun (r, _) _ => by
  simp only [g_roster_Taken]
  rw [lfp_run' (fun i => ((((word (isOn r) i : Nat) : Int), r, (i : Int), ()), (), ())) 64 (by rfl) fun i hi => by
    have h1 : (i : Int) < 64 := by omega
    simp only [g_roster_Taken_r1, h1, decide_true, cond_true, Int.natCast_nonneg, Bool.and_self, wrap1 i (by omega), word_or (isOn r) i hi, word]
    by_cases hb : (Arr.get r (i : Int)).Base = 0
    · simp [isOn, ent, hb]
    · simp [isOn, ent, hb]]
  rw [lfp_inr (z := ((((word (isOn r) 64 : Nat) : Int), ()), (), ())) (by simp [g_roster_Taken_r1])]
  rfl
theorem find_case {A B : Type} (r : Roster) (who : Int) (E : Nat → A) (z : A) (f : A → B) (g : Int → B) (h1 : ∀ i, f (E i) = g i) (h2 : f z = g (-1)) :
    f (match fstN 64 (fun s => isOn r s && decide ((ent r s).Who = who)) 0 with | some i => E i | none => z) = g (findR r who) := by
  unfold findR
  cases fstN 64 (fun s => isOn r s && decide ((ent r s).Who = who)) 0 <;> simp [h1, h2]
theorem eq_roster_Find : Eqs c_roster_Find g_roster_Find := Eqs.tot fun (r, who, _) _ => by
  change Int at who
  simp only [g_roster_Find]
  rw [lfp_find' (fun i => (((), (), 64, (i : Int), ()), (r, who, ()), ())) 64 (fun s => isOn r s && decide ((ent r s).Who = who)) (fun i => Sum.inl (((i : Int), ()), (r, who, ()), ())) (.inr ((), (r, who, ()), ())) (by rfl)
    (fun i hi hb => by
      have h1 : (i : Int) < 64 := by omega
      simp only [g_roster_Find_r1, h1, decide_true, cond_true, Int.natCast_nonneg, Bool.and_self, wrap1 i (by omega)]
      by_cases hb0 : (Arr.get r (i : Int)).Base = 0
      · simp [hb0]
      · have : ¬ (Arr.get r (i : Int)).Who = who := by simpa [isOn, ent, hb0] using hb
        simp [hb0, this])
    (fun i hi hb => by
      have h1 : (i : Int) < 64 := by omega
      have hb : ¬ (Arr.get r (i : Int)).Base = 0 ∧ (Arr.get r (i : Int)).Who = who := by simpa [isOn, ent] using hb
      simp [g_roster_Find_r1, h1, hb.1, hb.2])
    (by simp [g_roster_Find_r1])]
  simp only [Option.bind_some]
  exact find_case r who _ _ (fun z => Sum.elim (fun x : (Int × Unit) × (Vector Entry 64 × Int × Unit) × Unit => some (x.1.1, ())) (fun _ => some (-1, ())) z) (fun n => some (n, ())) (fun _ => rfl) rfl
theorem eq_ref09_Find : Eqs c_ref09_Find g_ref09_Find := Eqs.tot fun (r, who, _) _ => by
  change Int at who
  simp only [g_ref09_Find]
  rw [lfp_find' (fun i => ((who, (), (i : Int), ()), (r, ()), ())) 64 (fun s => isOn r s && decide ((ent r s).Who = who)) (fun i => Sum.inl (((i : Int), ()), (), ())) (.inr ((), (), ())) (by rfl)
    (fun i hi hb => by
      have h1 : (i : Int) < 64 := by omega
      simp only [g_ref09_Find_r1, h1, decide_true, cond_true, Int.natCast_nonneg, Bool.and_self, wrap1 i (by omega)]
      by_cases hb0 : (Arr.get r (i : Int)).Base = 0
      · simp [hb0]
      · have : ¬ (Arr.get r (i : Int)).Who = who := by simpa [isOn, ent, hb0] using hb
        simp [hb0, this])
    (fun i hi hb => by
      have h1 : (i : Int) < 64 := by omega
      have hb : ¬ (Arr.get r (i : Int)).Base = 0 ∧ (Arr.get r (i : Int)).Who = who := by simpa [isOn, ent] using hb
      simp [g_ref09_Find_r1, h1, hb.1, hb.2])
    (by simp [g_ref09_Find_r1])]
  simp only [Option.bind_some]
  exact find_case r who _ _ (fun z => Sum.elim (fun x : (Int × Unit) × Unit × Unit => some (x.1.1, ())) (fun _ => some (-1, ())) z) (fun n => some (n, ())) (fun _ => rfl) rfl
theorem findR_some {r : Roster} {who : Int} (h : 0 ≤ findR r who) : ∃ s : Nat, s < 64 ∧ findR r who = s ∧ isOn r s = true ∧ (ent r s).Who = who ∧ ∀ k, k < s → ¬ (isOn r k = true ∧ (ent r k).Who = who) := by
  unfold findR at h ⊢
  cases hf : fstN 64 (fun s => isOn r s && decide ((ent r s).Who = who)) 0 with
  | none => rw [hf] at h; simp at h
  | some s =>
    obtain ⟨_, h2, h3, h4⟩ := fstN_some hf
    simp only [Bool.and_eq_true, decide_eq_true_eq] at h3
    refine ⟨s, by omega, rfl, h3.1, h3.2, fun k hk hc => ?_⟩
    have := h4 k (by omega) hk
    simp [hc.1, hc.2] at this
theorem findR_none {r : Roster} {who : Int} (h : ¬ 0 ≤ findR r who) : findR r who = -1 ∧ ∀ s : Nat, s < 64 → isOn r s = true → (ent r s).Who ≠ who := by
  unfold findR at h ⊢
  cases hf : fstN 64 (fun s => isOn r s && decide ((ent r s).Who = who)) 0 with
  | some s => rw [hf] at h; simp at h
  | none =>
    refine ⟨rfl, fun s hs hon hw => ?_⟩
    have := fstN_none hf s (by omega) (by omega)
    simp [hon, hw] at this
end Go.Co.N
end

section
namespace Go.Co.N
open Go Go.Co

/-! ### Right rosters, right trees -/
theorem isOn_iff {r : Roster} {s : Nat} : isOn r s = true ↔ (ent r s).Base ≠ 0 := by simp [isOn]
theorem roster_on {r : Roster} (h : goodRoster r = true) {s : Nat} (hs : s < 64) (hon : isOn r s = true) : goodE (ent r s) = true ∧ ∀ k, k < s → isOn r k = true → (ent r k).Who ≠ (ent r s).Who ∧ (ent r k).Base ≠ (ent r s).Base := by
  have hz : ¬ ent r s = zeroE := fun h => isOn_iff.1 hon (by rw [h])
  obtain ⟨h1, h2⟩ := (entOk_iff hz).1 (allN_iff.1 h s hs)
  exact ⟨h1, fun k hk hk2 => (h2 k hk).resolve_left (isOn_iff.1 hk2)⟩
theorem roster_off {r : Roster} (h : goodRoster r = true) {s : Nat} (hs : s < 64) (hon : ¬ isOn r s = true) : ent r s = zeroE :=
  (entOk_base (allN_iff.1 h s hs)).1 (Classical.not_not.1 fun hb => hon (isOn_iff.2 hb))
theorem roster_who {r : Roster} (h : goodRoster r = true) {s k : Nat} (hs : s < 64) (hk : k < 64) (h1 : isOn r s = true) (h2 : isOn r k = true) (he : (ent r s).Who = (ent r k).Who) : s = k := by
  rcases Nat.lt_trichotomy s k with hl | hl | hl
  · exact absurd he ((roster_on h hk h2).2 s hl h1).1
  · exact hl
  · exact absurd he.symm ((roster_on h hs h1).2 k hl h2).1
theorem roster_base {r : Roster} (h : goodRoster r = true) {s k : Nat} (hs : s < 64) (hk : k < 64) (h1 : isOn r s = true) (h2 : isOn r k = true) (he : (ent r s).Base = (ent r k).Base) : s = k := by
  rcases Nat.lt_trichotomy s k with hl | hl | hl
  · exact absurd he ((roster_on h hk h2).2 s hl h1).2
  · exact hl
  · exact absurd he.symm ((roster_on h hs h1).2 k hl h2).2
theorem leafAt_on {t : Tree} (h : goodTree t = true) {s : Nat} (hs : s < 64) (hon : isOn t.Roster s = true) : leafAt (ent t.Roster s) t.Epoch = (⟨(ent t.Roster s).Base, t.Epoch - (ent t.Roster s).Since⟩, 0) := by
  obtain ⟨h1, h2, _, _, _, h6, _, h8⟩ := goodTree_iff.1 h
  have hg := goodE_iff.1 (roster_on h6 hs hon).1
  have h9 := h8 s hs
  unfold leafAt
  rw [if_neg (by omega), if_neg (by omega), if_neg (by omega), if_neg (by omega)]
theorem leafAt_off {t : Tree} (h : goodTree t = true) {s : Nat} (hs : s < 64) (hon : ¬ isOn t.Roster s = true) : leafAt (ent t.Roster s) t.Epoch = (⟨0, 0⟩, 16) := by
  rw [roster_off (goodTree_iff.1 h).2.2.2.2.2.1 hs hon]; rfl
theorem chkT_0 {t : Tree} : chkT t = 0 ↔ goodTree t = true := by unfold chkT; cases goodTree t <;> simp
theorem chkR_0 {r : Roster} : chkR r = 0 ↔ goodRoster r = true := by unfold chkR; cases goodRoster r <;> simp
/-! ### The tree's check -/
def okV (t : Tree) (v : Nat) : Bool := decide (bas t.Keys v < t.Fresh) && decide (stp t.Keys v ≤ t.Epoch)
def okS (t : Tree) (s : Nat) : Bool := decide ((ent t.Roster s).Base < t.Fresh) && decide ((ent t.Roster s).Since ≤ t.Epoch) && allN 21 fun v => !decide (bas t.Keys v = (ent t.Roster s).Base)
theorem goodTree_eq (t : Tree) : goodTree t = (decide (0 ≤ t.Epoch) && decide (t.Epoch ≤ 200) && decide (22 ≤ t.Fresh) && decide (t.Fresh ≤ 32768) && goodKeys t.Keys && goodRoster t.Roster && allN 21 (okV t) && allN 64 (okS t)) := rfl
theorem chkT_bad {t : Tree} (h : ¬ goodTree t = true) : chkT t = 31 := by unfold chkT; rw [Bool.eq_false_iff.2 h]; rfl
theorem eq_keytree_Check : Eqs c_keytree_Check g_keytree_Check := Eqs.tot fun (t, _) _ => by
  change Tree at t
  simp only [g_keytree_Check]
  by_cases p1 : t.Epoch < 0
  · rw [chkT_bad fun h => by have := (goodTree_iff.1 h).1; omega]; simp [p1]
  by_cases p2 : 200 < t.Epoch
  · rw [chkT_bad fun h => by have := (goodTree_iff.1 h).2.1; omega]; simp [p1, p2]
  by_cases p3 : t.Fresh ≤ 21
  · rw [chkT_bad fun h => by have := (goodTree_iff.1 h).2.2.1; omega]; simp [p1, p2, p3]
  by_cases p4 : 32768 < t.Fresh
  · rw [chkT_bad fun h => by have := (goodTree_iff.1 h).2.2.2.1; omega]; simp [p1, p2, p3, p4]
  by_cases p5 : goodKeys t.Keys = true
  case neg => rw [chkT_bad fun h => p5 (goodTree_iff.1 h).2.2.2.2.1]; simp [p1, p2, p3, p4, chk_0, p5]
  by_cases p6 : goodRoster t.Roster = true
  case neg => rw [chkT_bad fun h => p6 (goodTree_iff.1 h).2.2.2.2.2.1]; simp [p1, p2, p3, p4, chk_0, p5, chkR_0, p6]
  have hg : chkT t = bif allN 21 (okV t) && allN 64 (okS t) then 0 else 31 := by
    unfold chkT
    rw [goodTree_eq, decide_eq_true (show 0 ≤ t.Epoch by omega), decide_eq_true (show t.Epoch ≤ 200 by omega), decide_eq_true (show 22 ≤ t.Fresh by omega), decide_eq_true (show t.Fresh ≤ 32768 by omega), p5, p6]; rfl
  rw [hg]
  simp only [p1, p2, p3, p4, chk_0, p5, chkR_0, p6, decide_false, decide_true, Bool.not_true, cond_false]
  rw [lfp_all' (fun i => (((), (), t.Keys, (i : Int), ()), (t, ()), cmap (fun j => bas t.Keys j) i, ())) 21 (okV t) (.inl ((31, ()), (), ())) (.inr (((), (), ()), (t, ()), cmap (fun j => bas t.Keys j) 21, ())) (by rfl)
    (fun i hi hok => by
      have h1 : (i : Int) < 21 := by omega
      have hc := cmap_succ (fun j => bas t.Keys j) i (by omega)
      have hok : (Arr.get t.Keys (i : Int)).Base < t.Fresh ∧ (Arr.get t.Keys (i : Int)).Step ≤ t.Epoch := by simpa [okV] using hok
      have q1 : ¬ t.Fresh ≤ (Arr.get t.Keys (i : Int)).Base := by omega
      have q2 : ¬ t.Epoch < (Arr.get t.Keys (i : Int)).Step := by omega
      simp only [bas] at hc ⊢
      simp only [g_keytree_Check_r1, h1, decide_true, cond_true, Int.natCast_nonneg, Bool.and_self, q1, q2, decide_false, cond_false, hc, wrap1 i (by omega)])
    (fun i hi hok => by
      have h1 : (i : Int) < 21 := by omega
      simp only [g_keytree_Check_r1, h1, decide_true, cond_true, Int.natCast_nonneg, Bool.and_self]
      by_cases q1 : t.Fresh ≤ (Arr.get t.Keys (i : Int)).Base
      · simp [q1]
      · have q2 : t.Epoch < (Arr.get t.Keys (i : Int)).Step := by
          have q3 : (Arr.get t.Keys (i : Int)).Base < t.Fresh := by omega
          simp [okV, q3] at hok; exact hok
        simp [q1, q2])
    (by simp [g_keytree_Check_r1])]
  cases h21 : allN 21 (okV t) with
  | false => rfl
  | true =>
    simp only [cond_true, Option.bind_some, Sum.elim_inr, Bool.true_and]
    rw [lfp_all' (fun i => (((), (), t.Roster, (i : Int), ()), (t, ()), cmap (fun j => bas t.Keys j) 21, ())) 64 (okS t) (.inl ((31, ()), (), ())) (.inr ((), (), ())) (by rfl)
      (fun i hi hok => by
        have h1 : (i : Int) < 64 := by omega
        have hok : ((Arr.get t.Roster (i : Int)).Base < t.Fresh ∧ (Arr.get t.Roster (i : Int)).Since ≤ t.Epoch) ∧ ∀ v : Nat, v < 21 → ¬ bas t.Keys (v : Int) = (Arr.get t.Roster (i : Int)).Base := by simpa [okS, allN_iff] using hok
        have hm := (cmap_get (fun j => bas t.Keys j) (Arr.get t.Roster (i : Int)).Base 21).2.2.2 hok.2
        have q1 : ¬ t.Fresh ≤ (Arr.get t.Roster (i : Int)).Base := by omega
        have q2 : ¬ t.Epoch < (Arr.get t.Roster (i : Int)).Since := by omega
        simp only [g_keytree_Check_r2, h1, decide_true, cond_true, Int.natCast_nonneg, Bool.and_self, hm, q1, q2, Int.lt_irrefl, decide_false, cond_false, wrap1 i (by omega)])
      (fun i hi hok => by
        have h1 : (i : Int) < 64 := by omega
        simp only [g_keytree_Check_r2, h1, decide_true, cond_true, Int.natCast_nonneg, Bool.and_self]
        have hm := cmap_get (fun j => bas t.Keys j) (Arr.get t.Roster (i : Int)).Base 21
        by_cases q0 : 0 < (mget (cmap (fun j => bas t.Keys j) 21) (Arr.get t.Roster (i : Int)).Base).getD 0
        · simp [q0]
        by_cases q1 : t.Fresh ≤ (Arr.get t.Roster (i : Int)).Base
        · simp [q0, q1]
        by_cases q2 : t.Epoch < (Arr.get t.Roster (i : Int)).Since
        · simp [q0, q1, q2]
        · exfalso
          have hall := hm.2.2.1 (by omega)
          have : okS t i = true := by
            have e1 : (Arr.get t.Roster (i : Int)).Base < t.Fresh := by omega
            have e2 : (Arr.get t.Roster (i : Int)).Since ≤ t.Epoch := by omega
            have e3 : allN 21 (fun v => !decide (bas t.Keys v = (Arr.get t.Roster (i : Int)).Base)) = true := allN_iff.2 fun v hv => by simpa using hall v hv
            simp only [okS, ent, e1, e2, e3, decide_true, Bool.and_self]
          rw [this] at hok; cases hok)
      (by simp [g_keytree_Check_r2])]
    cases allN 64 (okS t) <;> rfl
theorem eq_ref11_Check : Eqs c_ref11_Check g_ref11_Check := Eqs.tot fun (t, _) _ => by
  change Tree at t
  simp only [g_ref11_Check]
  by_cases p1 : t.Epoch < 0
  · rw [chkT_bad fun h => by have := (goodTree_iff.1 h).1; omega]; simp [p1]
  by_cases p2 : 200 < t.Epoch
  · rw [chkT_bad fun h => by have := (goodTree_iff.1 h).2.1; omega]; simp [p1, p2]
  by_cases p3 : t.Fresh < 22
  · rw [chkT_bad fun h => by have := (goodTree_iff.1 h).2.2.1; omega]; simp [p1, p2, p3]
  by_cases p4 : 32768 < t.Fresh
  · rw [chkT_bad fun h => by have := (goodTree_iff.1 h).2.2.2.1; omega]; simp [p1, p2, p3, p4]
  by_cases p5 : goodKeys t.Keys = true
  case neg => rw [chkT_bad fun h => p5 (goodTree_iff.1 h).2.2.2.2.1]; simp [p1, p2, p3, p4, chk_0, p5]
  by_cases p6 : goodRoster t.Roster = true
  case neg => rw [chkT_bad fun h => p6 (goodTree_iff.1 h).2.2.2.2.2.1]; simp [p1, p2, p3, p4, chk_0, p5, chkR_0, p6]
  have hg : chkT t = bif allN 21 (okV t) && allN 64 (okS t) then 0 else 31 := by
    unfold chkT
    rw [goodTree_eq, decide_eq_true (show 0 ≤ t.Epoch by omega), decide_eq_true (show t.Epoch ≤ 200 by omega), decide_eq_true (show 22 ≤ t.Fresh by omega), decide_eq_true (show t.Fresh ≤ 32768 by omega), p5, p6]; rfl
  rw [hg]
  simp only [p1, p2, p3, p4, chk_0, p5, chkR_0, p6, decide_false, decide_true, Bool.not_true, cond_false]
  rw [lfp_all' (fun i => (((), (i : Int), ()), (t, ()), ())) 21 (okV t) (.inl ((31, ()), (), ())) (.inr (((), ()), (t, ()), ())) (by rfl)
    (fun i hi hok => by
      have h1 : (i : Int) < 21 := by omega
      have hok : (Arr.get t.Keys (i : Int)).Base < t.Fresh ∧ (Arr.get t.Keys (i : Int)).Step ≤ t.Epoch := by simpa [okV] using hok
      have q1 : ¬ t.Fresh ≤ (Arr.get t.Keys (i : Int)).Base := by omega
      have q2 : ¬ t.Epoch < (Arr.get t.Keys (i : Int)).Step := by omega
      simp only [g_ref11_Check_r1, h1, decide_true, cond_true, Int.natCast_nonneg, Bool.and_self, q1, q2, decide_false, cond_false, wrap1 i (by omega)])
    (fun i hi hok => by
      have h1 : (i : Int) < 21 := by omega
      simp only [g_ref11_Check_r1, h1, decide_true, cond_true, Int.natCast_nonneg, Bool.and_self]
      by_cases q1 : t.Fresh ≤ (Arr.get t.Keys (i : Int)).Base
      · simp [q1]
      · have q2 : t.Epoch < (Arr.get t.Keys (i : Int)).Step := by
          have q3 : (Arr.get t.Keys (i : Int)).Base < t.Fresh := by omega
          simp [okV, q3] at hok; exact hok
        simp [q1, q2])
    (by simp [g_ref11_Check_r1])]
  cases h21 : allN 21 (okV t) with
  | false => rfl
  | true =>
    have inner : ∀ s : Nat, s < 64 → lfp g_ref11_Check_r3 (((), (s : Int), 0, ()), (t, ()), ()) = some (bif allN 21 (fun v => !decide (bas t.Keys v = (ent t.Roster s).Base)) then .inr (((), (s : Int), ()), (t, ()), ()) else .inl ((31, ()), (), ())) := fun s hs =>
      lfp_all' (fun i => (((), (s : Int), (i : Int), ()), (t, ()), ())) 21 _ _ _ rfl
        (fun i hi hok => by
          have h1 : (i : Int) < 21 := by omega
          have h2 : (s : Int) < 64 := by omega
          have hok : ¬ (Arr.get t.Keys (i : Int)).Base = (Arr.get t.Roster (s : Int)).Base := by simpa using hok
          simp only [g_ref11_Check_r3, h1, h2, decide_true, cond_true, Int.natCast_nonneg, Bool.and_self, hok, decide_false, cond_false, wrap1 i (by omega)])
        (fun i hi hok => by
          have h1 : (i : Int) < 21 := by omega
          have h2 : (s : Int) < 64 := by omega
          have hok : (Arr.get t.Keys (i : Int)).Base = (Arr.get t.Roster (s : Int)).Base := by simpa using hok
          simp only [g_ref11_Check_r3, h1, h2, decide_true, cond_true, Int.natCast_nonneg, Bool.and_self, hok])
        (by simp [g_ref11_Check_r3])
    simp only [cond_true, Option.bind_some, Sum.elim_inr, Bool.true_and]
    rw [lfp_all' (fun i => (((), (i : Int), ()), (t, ()), ())) 64 (okS t) (.inl ((31, ()), (), ())) (.inr ((), (), ())) (by rfl)
      (fun i hi hok => by
        have h1 : (i : Int) < 64 := by omega
        have hin := inner i hi
        have hok' : ((ent t.Roster (i : Int)).Base < t.Fresh ∧ (ent t.Roster (i : Int)).Since ≤ t.Epoch) ∧ allN 21 (fun v => !decide (bas t.Keys v = (ent t.Roster (i : Int)).Base)) = true := by
          unfold okS at hok; simp only [Bool.and_eq_true, decide_eq_true_eq] at hok; exact hok
        rw [hok'.2] at hin
        have q1 : ¬ t.Fresh ≤ (Arr.get t.Roster (i : Int)).Base := by have := hok'.1.1; simp only [ent] at this; omega
        have q2 : ¬ t.Epoch < (Arr.get t.Roster (i : Int)).Since := by have := hok'.1.2; simp only [ent] at this; omega
        simp only [g_ref11_Check_r2, h1, decide_true, cond_true, Int.natCast_nonneg, Bool.and_self, hin, q1, q2, decide_false, cond_false, Option.bind_some, Sum.elim_inr, wrap1 i (by omega)])
      (fun i hi hok => by
        have h1 : (i : Int) < 64 := by omega
        have hin := inner i hi
        simp only [g_ref11_Check_r2, h1, decide_true, cond_true, Int.natCast_nonneg, Bool.and_self]
        by_cases q1 : t.Fresh ≤ (Arr.get t.Roster (i : Int)).Base
        · simp [q1]
        by_cases q2 : t.Epoch < (Arr.get t.Roster (i : Int)).Since
        · simp [q1, q2]
        · have e1 : (Arr.get t.Roster (i : Int)).Base < t.Fresh := by omega
          have e2 : (Arr.get t.Roster (i : Int)).Since ≤ t.Epoch := by omega
          have e3 : allN 21 (fun v => !decide (bas t.Keys v = (ent t.Roster i).Base)) = false := by
            simp only [okS, ent, e1, e2, decide_true, Bool.true_and] at hok; exact hok
          rw [e3] at hin
          simp only [q1, q2, hin, decide_false, cond_false, Option.bind_some, Sum.elim_inl])
      (by simp [g_ref11_Check_r2])]
    cases allN 64 (okS t) <;> rfl

/-! ### Keys of nodes -/
theorem pathAt_in {s : Int} (h0 : 0 ≤ s) (h1 : s < 64) (i : Nat) : 0 ≤ pathAt s i ∧ pathAt s i < 21 := by
  unfold pathAt
  by_cases a : i = 0
  · rw [if_pos a]; omega
  · rw [if_neg a]
    by_cases b : i = 1
    · rw [if_pos b]; omega
    · rw [if_neg b]; omega
theorem pathN_get (s : Int) (i : Nat) (h : i < 3) : Arr.get (pathN s) (i : Int) = pathAt s i := by rw [pathN, get_make _ _ (by omega) (by omega)]; simp
theorem get_fill_self {n : Nat} {α : Type} [Inhabited α] (z : α) (g : Nat → α) (i : Nat) (h : i < n) : Arr.get (fillTo z g i : Arr n α) (i : Int) = z := by
  rw [fillTo, get_make _ _ (by omega) (by omega), if_neg (by omega)]
theorem eq_keytree_Start : Eqs c_keytree_Start g_keytree_Start := Eqs.tot fun _ _ => by
  simp only [g_keytree_Start]
  rw [lfp_run' (fun i => (((), (), (i : Int), ()), (St.zero St.tree, ⟨0, 22, fillTo St.key.zero (fun v => ⟨v + 1, 0⟩) i, Vector.replicate 64 St.entry.zero⟩, ()), ())) 21 (by rw [fill_0]; rfl) fun i hi => by
    have h1 : (i : Int) < 21 := by omega
    simp only [g_keytree_Start_r1, h1, decide_true, cond_true, Int.natCast_nonneg, Bool.and_self, wrap1 i (by omega), get_fill_self _ _ i hi]
    rw [← fill_put _ _ _ hi]; rfl]
  rw [lfp_inr (z := (((), (), ()), (St.zero St.tree, startT, ()), ())) (by simp [g_keytree_Start_r1, fill_n, startT])]
  simp
theorem eq_ref11_Start : Eqs c_ref11_Start g_ref11_Start := Eqs.tot fun _ _ => by
  simp only [g_ref11_Start]
  rw [lfp_run' (fun i => (((), (), (i : Int), ()), (St.zero St.tree, ⟨0, 22, fillTo St.key.zero (fun v => ⟨v + 1, 0⟩) i, Vector.replicate 64 St.entry.zero⟩, ()), ())) 21 (by rw [fill_0]; rfl) fun i hi => by
    have h1 : (i : Int) < 21 := by omega
    simp only [g_ref11_Start_r1, h1, decide_true, cond_true, Int.natCast_nonneg, Bool.and_self, wrap1 i (by omega)]
    rw [← fill_put _ _ _ hi]; rfl]
  rw [lfp_inr (z := (((), (), ()), (St.zero St.tree, startT, ()), ())) (by simp [g_ref11_Start_r1, fill_n, startT])]
  simp
/-! ### The laws of chapter 11 -/
theorem ofT_inner (t : Tree) {v : Nat} (h : v < 21) : ofT t v = (Arr.get t.Keys (v : Int), 0) := by
  have h1 : node v = true := node_iff.2 (by omega)
  have h2 : (v : Int) < 21 := by omega
  simp [ofT, h1, h2]
theorem ofT_leaf (t : Tree) {s : Nat} (h : s < 64) : ofT t ((21 + s : Nat) : Int) = leafAt (ent t.Roster s) t.Epoch := by
  have h1 : node ((21 + s : Nat) : Int) = true := node_iff.2 (by omega)
  have h2 : ¬ ((21 + s : Nat) : Int) < 21 := by omega
  have h3 : ((21 + s : Nat) : Int) - 21 = (s : Int) := by omega
  simp only [ofT, h1, h2, decide_false, cond_true, cond_false, h3]
/-- A node that has a key: which one, within which bounds. -/
theorem ofT_ok {t : Tree} (hg : goodTree t = true) {v : Nat} (hv : v < 85) (h : (ofT t v).2 = 0) : good (ofT t v).1 = true ∧ (ofT t v).1.Base < t.Fresh ∧ (ofT t v).1.Step ≤ t.Epoch ∧
    ((v < 21 ∧ (ofT t v).1 = Arr.get t.Keys (v : Int)) ∨ (∃ s, v = 21 + s ∧ s < 64 ∧ isOn t.Roster s = true ∧ (ofT t v).1 = ⟨(ent t.Roster s).Base, t.Epoch - (ent t.Roster s).Since⟩)) := by
  obtain ⟨g1, g2, g3, g4, g5, g6, g7, g8⟩ := goodTree_iff.1 hg
  by_cases h2 : v < 21
  · have hk := goodKeys_iff.1 g5 v h2
    have := g7 v h2
    rw [ofT_inner t h2]
    exact ⟨hk.1, this.1, this.2, .inl ⟨h2, rfl⟩⟩
  · obtain ⟨s, rfl⟩ := Nat.exists_eq_add_of_le (show 21 ≤ v by omega)
    have hs : s < 64 := by omega
    rw [ofT_leaf t hs] at h ⊢
    by_cases hon : isOn t.Roster s = true
    · have hl := leafAt_on hg hs hon
      have he := goodE_iff.1 (roster_on g6 hs hon).1
      have := g8 s hs
      rw [hl]
      exact ⟨good_iff.2 ⟨by simp only; omega, by simp only; omega, by simp only; omega, by simp only; omega⟩, this.1, by simp only; omega, .inr ⟨s, rfl, hs, hon, rfl⟩⟩
    · rw [leafAt_off hg hs hon] at h; simp at h
theorem ofT_names {t : Tree} (hg : goodTree t = true) {v w : Nat} (hv : v < 85) (hw : w < v) (h1 : (ofT t v).2 = 0) (h2 : (ofT t w).2 = 0) : (ofT t w).1.Base ≠ (ofT t v).1.Base := by
  obtain ⟨g1, g2, g3, g4, g5, g6, g7, g8⟩ := goodTree_iff.1 hg
  obtain ⟨_, _, _, a⟩ := ofT_ok hg hv h1
  obtain ⟨_, _, _, b⟩ := ofT_ok hg (show w < 85 by omega) h2
  rcases a with ⟨a1, a2⟩ | ⟨s, a1, a2, a3, a4⟩
  · rcases b with ⟨b1, b2⟩ | ⟨k, b1, b2, b3, b4⟩
    · rw [a2, b2]; exact (goodKeys_iff.1 g5 v a1).2.2 w hw
    · omega
  · rcases b with ⟨b1, b2⟩ | ⟨k, b1, b2, b3, b4⟩
    · rw [a4, b2]; exact (g8 s a2).2.2 w b1
    · rw [a4, b4]; exact ((roster_on g6 a2 a3).2 k (by omega) b3).2
theorem below_leaf : allN 64 (fun k => allN 64 fun s => decide (below ((21 + k : Nat) : Int) (leaf s) = decide (k = s))) = true := by decide +kernel
end Go.Co.N
end

section
namespace Go.Co.N
open Go Go.Co

/-! ### Loops over lists -/
section
variable {X Z A α : Type} [Inhabited α] {f : X → Option (X ⊕ Z)}
def foldE (step : A → α → A ⊕ Z) (fin : A → Z) : List α → A → Z
  | [], a => fin a
  | x :: xs, a => match step a x with
    | .inl a' => foldE step fin xs a'
    | .inr z => z
theorem lat_drop {xs : List α} {i : Nat} {x : α} {r : List α} (h : xs.drop i = x :: r) : i < xs.length ∧ lat xs (i : Int) = x ∧ xs.drop (i + 1) = r := by
  have hl : i < xs.length := by
    have := congrArg List.length h
    simp at this; omega
  refine ⟨hl, ?_, ?_⟩
  · rw [lat_nat xs i hl]
    have := List.drop_eq_getElem_cons hl
    rw [this] at h; cases h; rfl
  · have := List.drop_eq_getElem_cons hl
    rw [this] at h; cases h; rfl
theorem lfp_list (xs : List α) (S : Nat → A → X) (step : A → α → A ⊕ Z) (Inv : Nat → List α → A → Prop) (fin : A → Z)
    (h1 : ∀ i x r a, xs.drop i = x :: r → i < xs.length → lat xs (i : Int) = x → Inv i (x :: r) a → (∀ a', step a x = .inl a' → Inv (i + 1) r a') ∧ f (S i a) = some (match step a x with | .inl a' => .inl (S (i + 1) a') | .inr z => .inr z))
    (h2 : ∀ a, Inv xs.length [] a → f (S xs.length a) = some (.inr (fin a))) :
    ∀ (todo : List α) (i : Nat) (a : A), xs.drop i = todo → i ≤ xs.length → Inv i todo a → lfp f (S i a) = some (foldE step fin todo a) := by
  intro todo
  induction todo with
  | nil =>
    intro i a hd hle ha
    have : i = xs.length := by
      have := congrArg List.length hd
      simp at this; omega
    subst this
    exact lfp_inr (h2 a ha)
  | cons x r ih =>
    intro i a hd hle ha
    obtain ⟨hl, hx, hr⟩ := lat_drop hd
    obtain ⟨k1, k2⟩ := h1 i x r a hd hl hx ha
    simp only [foldE]
    cases hs : step a x with
    | inl a' =>
      rw [hs] at k2
      rw [lfp_inl k2]
      exact ih (i + 1) a' hr (by omega) (k1 a' hs)
    | inr z => rw [hs] at k2; exact lfp_inr k2
end

/-! ### Sets of slots -/
theorem eq_ref08_Places : Eqs c_ref08_Places g_ref08_Places := Eqs.tot fun (s, _) hf => by
  change Int at s
  have hs : 0 ≤ s ∧ s ≤ 18446744073709551615 := fine_u64.1 hf.1
  simp only [g_ref08_Places]
  have hle : ∀ i : Nat, 0 ≤ s / 2 ^ i ∧ s / 2 ^ i ≤ 18446744073709551615 := fun i => ⟨Int.ediv_nonneg hs.1 (Int.pow_nonneg (by omega)), Int.le_trans (Int.ediv_le_self _ hs.1) hs.2⟩
  rw [lfp_run' (fun i => ((s / 2 ^ i, (), (), (i : Int), ()), ((Vector.replicate 64 false : Arr 64 Bool), fillTo false (bitI s) i, ()), ())) 64 (by rw [fill_0]; simp) fun i hi => by
    have h1 : (i : Int) < 64 := by omega
    have := hle i
    simp only [g_ref08_Places_r1, h1, decide_true, cond_true, Int.natCast_nonneg, Bool.and_self, wrap1 i (by omega)]
    rw [Int.tdiv_eq_ediv_of_nonneg this.1, Go.IntWalk.u64_in _ (by omega), Int.tmod_eq_emod_of_nonneg this.1, Int.ediv_ediv_of_nonneg (Int.pow_nonneg (by omega)), ← Int.pow_succ]
    rw [show decide (s / 2 ^ i % 2 = 1) = bitI s i from rfl, fill_put (n := 64) false (bitI s) i hi]]
  rw [lfp_inr (z := (((), (), ()), ((Vector.replicate 64 false : Arr 64 Bool), (Arr.make (bitI s) : Arr 64 Bool), ()), ())) (by simp [g_ref08_Places_r1, fill_n])]
  simp
theorem word_cons (q : Nat → Bool) : ∀ n, word q (n + 1) = (bif q 0 then 1 else 0) + 2 * word (fun j => q (j + 1)) n
  | 0 => by simp [word]
  | n + 1 => by
    have := word_cons q n
    show word q (n + 1) + (bif q (n + 1) then 2 ^ (n + 1) else 0) = _
    rw [this]
    simp only [word]
    cases q (n + 1) <;> simp [Nat.pow_succ] <;> omega
theorem word_congr {p q : Nat → Bool} : ∀ n, (∀ i, i < n → p i = q i) → word p n = word q n
  | 0, _ => rfl
  | n + 1, h => by simp only [word]; rw [word_congr n fun i hi => h i (by omega), h n (by omega)]
theorem eq_ref08_Word : Eqs c_ref08_Word g_ref08_Word := Eqs.tot fun (p, _) _ => by
  simp only [g_ref08_Word]
  rw [lfp_run' (fun i => (((), ((word (fun j => Arr.get (p : Arr 64 Bool) ((j + (64 - i) : Nat) : Int)) i : Nat) : Int), 63 - (i : Int), ()), (p, ()), ())) 64 (by rfl) fun i hi => by
    have h1 : 0 ≤ 63 - (i : Int) := by omega
    have hw : 63 - (i : Int) = ((63 - i : Nat) : Int) := by omega
    have hr : ((63 - i : Nat) : Int) < 64 := by omega
    have hw2 : IntKind.i64.wrap (((63 - i : Nat) : Int) - 1) = 63 - ((i + 1 : Nat) : Int) := by rw [i64_in _ (by omega)]; omega
    have hlt := word_lt (fun j => Arr.get (p : Arr 64 Bool) ((j + (64 - i) : Nat) : Int)) i
    have hlt2 : (2 : Nat) ^ i ≤ 2 ^ 63 := Nat.pow_le_pow_right (by omega) (by omega)
    have hcons := word_cons (fun j => Arr.get (p : Arr 64 Bool) ((j + (64 - (i + 1)) : Nat) : Int)) i
    have hco : word (fun j => Arr.get (p : Arr 64 Bool) ((j + 1 + (64 - (i + 1)) : Nat) : Int)) i = word (fun j => Arr.get (p : Arr 64 Bool) ((j + (64 - i) : Nat) : Int)) i := word_congr i fun j hj => by
      rw [show j + 1 + (64 - (i + 1)) = j + (64 - i) by omega]
    have h0 : 0 + (64 - (i + 1)) = 63 - i := by omega
    simp only [hco, h0] at hcons
    simp only [g_ref08_Word_r1, hw, hw2, decide_true, cond_true, Int.natCast_nonneg, hr, Bool.and_self, hcons]
    generalize word (fun j => Arr.get (p : Arr 64 Bool) ((j + (64 - i) : Nat) : Int)) i = x at *
    have hx : x ≤ 9223372036854775807 := by omega
    rw [Go.IntWalk.u64_in ((x : Int) * 2) (by omega), Go.IntWalk.u64_in ((x : Int) * 2 + 1) (by omega)]
    cases Arr.get (p : Arr 64 Bool) ((63 - i : Nat) : Int) <;> simp <;> omega]
  rw [lfp_inr (z := ((((word (fun j => Arr.get (p : Arr 64 Bool) (j : Int)) 64 : Nat) : Int), ()), (), ())) (by simp [g_ref08_Word_r1])]
  rfl
theorem eq_ref08_List : Eqs c_ref08_List g_ref08_List := Eqs.tot fun (s, _) _ => by
  change Int at s
  simp only [g_ref08_List]
  rw [lfp_run' (fun i => (((), ((List.range i).filter (bitI s)).map (fun (i : Nat) => (i : Int)), (i : Int), ()), ((Arr.make (bitI s) : Arr 64 Bool), ()), ())) 64 (by rfl) fun i hi => by
    have h1 : (i : Int) < 64 := by omega
    have hlen : ((List.range i).filter (bitI s)).length ≤ i := by
      have := List.length_filter_le (bitI s) (List.range i)
      simpa using this
    have hg : Arr.get (Arr.make (bitI s) : Arr 64 Bool) (i : Int) = bitI s i := by rw [get_make _ _ (by omega) (by omega)]; simp
    have hb : (((List.range i).filter (bitI s)).length + 1) * 8 ≤ 140737488355328 := by omega
    simp only [g_ref08_List_r1, h1, decide_true, cond_true, Int.natCast_nonneg, Bool.and_self, hg, List.length_map, hb, wrap1 i (by omega), List.range_succ, List.filter_append, List.map_append]
    cases hbi : bitI s i with
    | true => simp [hbi]
    | false => simp [hbi]]
  rw [lfp_inr (z := ((listW s, ()), (), ())) (by simp [g_ref08_List_r1, listW])]
  simp
theorem eq_ref08_Count : Eqs c_ref08_Count g_ref08_Count := Eqs.tot fun (s, _) _ => by
  simp [g_ref08_Count, listW, cntW]
theorem eq_ref09_Taken : Eqs c_ref09_Taken g_ref09_Taken := Eqs.tot fun (r, _) _ => by
  simp only [g_ref09_Taken]
  rw [lfp_run' (fun i => (((), (), (i : Int), ()), (r, (fillTo false (isOn r) i : Arr 64 Bool), ()), ())) 64 (by rw [fill_0]; rfl) fun i hi => by
    have h1 : (i : Int) < 64 := by omega
    simp only [g_ref09_Taken_r1, h1, decide_true, cond_true, Int.natCast_nonneg, Bool.and_self, wrap1 i (by omega)]
    rw [show (!decide ((Arr.get r (i : Int)).Base = 0)) = isOn r i from rfl, fill_put (n := 64) false (isOn r) i hi]]
  rw [lfp_inr (z := (((), ()), ((Arr.make (isOn r) : Arr 64 Bool), ()), ())) (by simp [g_ref09_Taken_r1, fill_n])]
  simp only [Option.bind_some, taken]
  rw [word_congr 64 fun i hi => by
    show Arr.get (Arr.make (isOn r) : Arr 64 Bool) (i : Int) = isOn r i
    rw [get_make _ _ (by omega) (by omega)]; simp]
theorem eq_ref09_person : Eqs c_ref09_person g_ref09_person := Eqs.tot fun (r, seen, w, leaves, _) _ => by
  change Int at w
  simp only [g_ref09_person, personA]
  by_cases h1 : w < 0
  · have : ¬ 0 ≤ w := by omega
    simp [h1, this]
  by_cases h2 : 256 ≤ w
  · have : ¬ w < 256 := by omega
    simp [h1, h2, this]
  have h3 : 0 ≤ w := by omega
  have h4 : w < 256 := by omega
  simp only [h1, h2, h3, h4, decide_true, decide_false, Bool.and_self, cond_true, cond_false]
  cases Arr.get (seen : Arr 256 Bool) w <;> cases leaves <;> cases decide (0 ≤ findR r w) <;> rfl

/-! ### Who may move -/
def seenA (l : List Int) : Arr 256 Bool := Arr.make fun x => decide ((x : Int) ∈ l)
theorem seenA_get (l : List Int) {w : Int} (h0 : 0 ≤ w) (h1 : w < 256) : Arr.get (seenA l) w = decide (w ∈ l) := by
  rw [seenA, get_make _ _ h0 h1, Int.toNat_of_nonneg h0]
theorem seenA_put (l : List Int) {w : Int} (h0 : 0 ≤ w) (h1 : w < 256) : Arr.put (seenA l) w true = seenA (w :: l) := arr_ext fun i hi0 hi1 => by
  rw [get_put _ _ _ _ h0 h1 hi0, seenA_get _ hi0 hi1, seenA_get _ hi0 hi1]
  by_cases h : w = i
  · subst h; simp
  · have h' : ¬ i = w := fun e => h e.symm
    simp [h, h']
theorem seenA_congr {l m : List Int} (h : ∀ x, x ∈ l ↔ x ∈ m) : seenA l = seenA m := by
  unfold seenA
  congr 1
  funext x
  simp [h]
theorem seenA_nil : (Vector.replicate 256 false : Arr 256 Bool) = seenA [] := arr_ext fun i h0 h1 => by
  rw [get_rep _ _ h0 h1, seenA_get _ h0 h1]; simp
theorem personA_eq (r : Roster) (l : List Int) (w : Int) (leaves : Bool) : personA r (seenA l) w leaves = personE r l leaves w := by
  unfold personA personE
  by_cases h : 0 ≤ w ∧ w < 256
  · rw [seenA_get l h.1 h.2]
  · have : (decide (0 ≤ w) && decide (w < 256)) = false := by
      apply Bool.eq_false_iff.2; intro g; exact h (by simpa using g)
    rw [this]; simp only [cond_false]
theorem personE_0 {r : Roster} {l : List Int} {w : Int} {leaves : Bool} : personE r l leaves w = 0 ↔ 0 ≤ w ∧ w < 256 ∧ w ∉ l ∧ (0 ≤ findR r w ↔ leaves = true) := by
  unfold personE
  by_cases h1 : 0 ≤ w
  · by_cases h2 : w < 256
    · by_cases h3 : w ∈ l
      · simp [h1, h2, h3]
      · cases leaves <;> by_cases h4 : 0 ≤ findR r w <;> simp [h1, h2, h3, h4]
    · simp [h1, h2]
  · simp [h1]
/-- The seen behind a list that has no error. -/
def askSeen (l seen : List Int) : List Int := l.reverse ++ seen
theorem ask_fold {Z : Type} (r : Roster) (leaves : Bool) (fin : List Int → Z) (err : Int → Z) : ∀ (l seen : List Int),
    foldE (fun (a : List Int) w => bif decide (personE r a leaves w = 0) then Sum.inl (w :: a) else Sum.inr (err (personE r a leaves w))) fin l seen = bif decide (askL r leaves l seen = 0) then fin (askSeen l seen) else err (askL r leaves l seen)
  | [], seen => by simp [foldE, askL, askSeen]
  | w :: l, seen => by
    simp only [foldE, askL]
    by_cases h : personE r seen leaves w = 0
    · simp only [h, decide_true, cond_true]
      rw [ask_fold r leaves fin err l (w :: seen)]
      simp [askSeen]
    · simp only [h, decide_false, cond_false]
theorem askL_0 {r : Roster} {leaves : Bool} : ∀ {l seen : List Int}, askL r leaves l seen = 0 → (∀ w ∈ l, 0 ≤ w ∧ w < 256 ∧ w ∉ seen ∧ (0 ≤ findR r w ↔ leaves = true)) ∧ l.Nodup
  | [], _, _ => by simp
  | w :: l, seen, h => by
    simp only [askL] at h
    by_cases hp : personE r seen leaves w = 0
    · simp only [hp, decide_true, cond_true] at h
      obtain ⟨h1, h2⟩ := askL_0 h
      have hw := personE_0.1 hp
      refine ⟨fun x hx => ?_, ?_⟩
      · rcases List.mem_cons.1 hx with rfl | hx
        · exact hw
        · have := h1 x hx
          exact ⟨this.1, this.2.1, fun hn => this.2.2.1 (List.mem_cons_of_mem _ hn), this.2.2.2⟩
      · exact List.nodup_cons.2 ⟨fun hx => (h1 w hx).2.2.1 (List.mem_cons_self ..), h2⟩
    · simp only [hp, decide_false, cond_false] at h
theorem askL_iff {r : Roster} {leaves : Bool} : ∀ {l seen : List Int}, askL r leaves l seen = 0 ↔ (∀ w ∈ l, 0 ≤ w ∧ w < 256 ∧ w ∉ seen ∧ (0 ≤ findR r w ↔ leaves = true)) ∧ l.Nodup
  | [], _ => by simp [askL]
  | w :: l, seen => by
    refine ⟨askL_0, fun ⟨h1, h2⟩ => ?_⟩
    obtain ⟨h3, h4⟩ := List.nodup_cons.1 h2
    have hp : personE r seen leaves w = 0 := personE_0.2 (h1 w (List.mem_cons_self ..))
    simp only [askL, hp, decide_true, cond_true]
    refine askL_iff.2 ⟨fun x hx => ?_, h4⟩
    have := h1 x (List.mem_cons_of_mem _ hx)
    refine ⟨this.1, this.2.1, fun hn => ?_, this.2.2.2⟩
    rcases List.mem_cons.1 hn with rfl | hn
    · exact h3 hx
    · exact this.2.2.1 hn
theorem nodup_le : ∀ (n : Nat) (l : List Int), l.Nodup → (∀ x ∈ l, 0 ≤ x ∧ x < n) → l.length ≤ n
  | 0, l, _, h => by
    cases l with
    | nil => simp
    | cons a l => have := h a (List.mem_cons_self ..); omega
  | n + 1, l, hn, h => by
    by_cases hm : (n : Int) ∈ l
    · have h1 := List.length_erase_of_mem hm
      have h2 := nodup_le n (l.erase (n : Int)) (hn.erase _) fun x hx => by
        have hx' := (List.Nodup.mem_erase_iff hn).1 hx
        have := h x hx'.2
        have : x ≠ (n : Int) := hx'.1
        omega
      have : 0 < l.length := List.length_pos_of_mem hm
      omega
    · have := nodup_le n l hn fun x hx => by
        have h1 := h x hx
        have : x ≠ (n : Int) := fun e => hm (e ▸ hx)
        omega
      omega
theorem askL_len {r : Roster} {leaves : Bool} {l seen : List Int} (h : askL r leaves l seen = 0) : l.length ≤ 256 :=
  nodup_le 256 l (askL_0 h).2 fun x hx => ⟨((askL_0 h).1 x hx).1, ((askL_0 h).1 x hx).2.1⟩
theorem wrap1' {i n : Nat} (h : i < n) (hn : n ≤ 9223372036854775807) : IntKind.i64.wrap ((i : Int) + 1) = ((i + 1 : Nat) : Int) := by rw [i64_in _ (by omega)]; omega
theorem fine_li {l : List Int} (h : Fine (.list .i) l) : l.length * 8 ≤ 140737488355328 := (Fine.list.1 h).1
theorem fine_batch {b : Batch} : Fine (.st .batch) b ↔ Fine (.list .i) b.Leaves ∧ Fine (.list .i) b.Joins := by
  rw [Fine.st]
  show Fine (.prod (.list .i) (.prod (.list .i) .unit)) (b.Leaves, b.Joins, ()) ↔ _
  rw [Fine.prod, Fine.prod, Fine.unit]; simp
theorem cntW_le (s : Int) : 0 ≤ cntW s ∧ cntW s ≤ 64 := by
  unfold cntW
  have := List.length_filter_le (bitI s) (List.range 64)
  simp at this; omega
theorem eq_ref09_Fits : Eqs c_ref09_Fits g_ref09_Fits := Eqs.tot fun (r, b, _) hf => by
  change Batch at b
  have hb : Fine (.list .i) b.Leaves ∧ Fine (.list .i) b.Joins := fine_batch.1 hf.2.1
  have hL : b.Leaves.length * 8 ≤ 140737488355328 := fine_li hb.1
  have hJ : b.Joins.length * 8 ≤ 140737488355328 := fine_li hb.2
  simp only [g_ref09_Fits, fits, chkR_0]
  cases hg : goodRoster r with
  | false => simp
  | true =>
    simp only [decide_true, Bool.not_true, cond_false, cond_true]
    rw [seenA_nil]
    rw [show lfp g_ref09_Fits_r1 (((), (), (), b.Leaves, (b.Leaves.length : Int), 0, ()), (r, b, seenA [], ()), ()) = _ from
      lfp_list b.Leaves (fun i a => (((), (), (), b.Leaves, (b.Leaves.length : Int), (i : Int), ()), (r, b, seenA a, ()), ())) (fun a w => bif decide (personE r a true w = 0) then Sum.inl (w :: a) else Sum.inr (.inl ((personE r a true w, ()), (), ()))) (fun _ _ _ => True) (fun a => .inr (((), (), (), ()), (r, b, seenA a, ()), ()))
        (fun i x rest a _ hi hx _ => by
          refine ⟨fun _ _ => trivial, ?_⟩
          have h1 : (i : Int) < (b.Leaves.length : Int) := by omega
          simp only [g_ref09_Fits_r1, h1, decide_true, cond_true, Int.natCast_nonneg, Bool.and_self, hx, personA_eq]
          by_cases hp : personE r a true x = 0
          · have hw := personE_0.1 hp
            simp only [hp, decide_true, Bool.not_true, cond_false, cond_true, hw.1, hw.2.1, Bool.and_self, seenA_put a hw.1 hw.2.1, wrap1' hi (by omega)]
          · simp only [hp, decide_false, Bool.not_false, cond_true, cond_false])
        (fun a _ => by simp [g_ref09_Fits_r1]) b.Leaves 0 [] rfl (by omega) trivial]
    rw [ask_fold r true _ (fun e => Sum.inl ((e, ()), (), ()))]
    simp only [Option.bind_some]
    by_cases h1 : askL r true b.Leaves [] = 0
    case neg => simp [h1]
    simp only [h1, decide_true, cond_true, Sum.elim_inr]
    rw [show seenA (askSeen b.Leaves []) = seenA b.Leaves from seenA_congr fun x => by simp [askSeen]]
    have hsn : askL r false b.Joins b.Leaves = askL r false b.Joins b.Leaves := rfl
    rw [show lfp g_ref09_Fits_r2 (((), (), (), b.Joins, (b.Joins.length : Int), 0, ()), (r, b, seenA b.Leaves, ()), ()) = _ from
      lfp_list b.Joins (fun i a => (((), (), (), b.Joins, (b.Joins.length : Int), (i : Int), ()), (r, b, seenA a, ()), ())) (fun a w => bif decide (personE r a false w = 0) then Sum.inl (w :: a) else Sum.inr (.inl ((personE r a false w, ()), (), ()))) (fun _ _ _ => True) (fun a => .inr (((), (), ()), (r, b, ()), ()))
        (fun i x rest a _ hi hx _ => by
          refine ⟨fun _ _ => trivial, ?_⟩
          have h1 : (i : Int) < (b.Joins.length : Int) := by omega
          simp only [g_ref09_Fits_r2, h1, decide_true, cond_true, Int.natCast_nonneg, Bool.and_self, hx, personA_eq]
          by_cases hp : personE r a false x = 0
          · have hw := personE_0.1 hp
            simp only [hp, decide_true, Bool.not_true, cond_false, cond_true, hw.1, hw.2.1, Bool.and_self, seenA_put a hw.1 hw.2.1, wrap1' hi (by omega)]
          · simp only [hp, decide_false, Bool.not_false, cond_true, cond_false])
        (fun a _ => by simp [g_ref09_Fits_r2]) b.Joins 0 b.Leaves rfl (by omega) trivial]
    rw [ask_fold r false _ (fun e => Sum.inl ((e, ()), (), ()))]
    simp only [Option.bind_some]
    by_cases h2 : askL r false b.Joins b.Leaves = 0
    case neg => simp [h2]
    simp only [h2, decide_true, cond_true, Sum.elim_inr]
    have hc := cntW_le (taken r)
    have hl := askL_len h1
    have hj := askL_len h2
    rw [i64_in (64 - cntW (taken r)) (by omega), i64_in _ (by omega)]
    by_cases h3 : (b.Joins.length : Int) ≤ 64 - cntW (taken r) + b.Leaves.length
    · have : ¬ 64 - cntW (taken r) + (b.Leaves.length : Int) < b.Joins.length := by omega
      simp [h3, this]
    · have : 64 - cntW (taken r) + (b.Leaves.length : Int) < b.Joins.length := by omega
      simp [h3, this]
theorem fits_ok {r : Roster} {b : Batch} (h : fits r b = 0) : goodRoster r = true ∧ askL r true b.Leaves [] = 0 ∧ askL r false b.Joins b.Leaves = 0 ∧ (b.Joins.length : Int) ≤ 64 - cntW (taken r) + b.Leaves.length := by
  unfold fits at h
  cases hg : goodRoster r with
  | false => rw [hg] at h; simp at h
  | true =>
    rw [hg] at h
    by_cases h1 : askL r true b.Leaves [] = 0
    · by_cases h2 : askL r false b.Joins b.Leaves = 0
      · by_cases h3 : (b.Joins.length : Int) ≤ 64 - cntW (taken r) + b.Leaves.length
        · exact ⟨rfl, h1, h2, h3⟩
        · simp [h1, h2, h3] at h
      · simp [h1, h2] at h
    · simp [h1] at h
end Go.Co.N
end

section
namespace Go.Co.N
open Go Go.Co

/-! ### Counting -/
def cntP (p : Nat → Bool) : Nat → Nat
  | 0 => 0
  | n + 1 => cntP p n + (bif p n then 1 else 0)
theorem cntP_congr {p q : Nat → Bool} : ∀ n, (∀ i, i < n → p i = q i) → cntP p n = cntP q n
  | 0, _ => rfl
  | n + 1, h => by simp only [cntP]; rw [cntP_congr n fun i hi => h i (by omega), h n (by omega)]
theorem cntP_le (p : Nat → Bool) : ∀ n, cntP p n ≤ n
  | 0 => Nat.le_refl _
  | n + 1 => by have := cntP_le p n; simp only [cntP]; cases p n <;> simp <;> omega
theorem cntP_not (p : Nat → Bool) : ∀ n, cntP p n + cntP (fun i => !p i) n = n
  | 0 => rfl
  | n + 1 => by have := cntP_not p n; simp only [cntP]; cases p n <;> simp <;> omega
theorem cntP_change {p q : Nat → Bool} (s : Nat) : ∀ n, (∀ i, i < n → i ≠ s → p i = q i) → cntP p n ≤ cntP q n + 1
  | 0, _ => by simp [cntP]
  | n + 1, h => by
    simp only [cntP]
    by_cases hs : n = s
    · rw [cntP_congr n fun i hi => h i (by omega) (by omega)]
      cases p n <;> cases q n <;> simp <;> omega
    · rw [h n (by omega) hs]
      have := cntP_change s n fun i hi hne => h i (by omega) hne
      cases q n <;> simp <;> omega
theorem cntP_up {p q : Nat → Bool} (s : Nat) (hp : p s = false) (hq : q s = true) : ∀ n, s < n → (∀ i, i < n → i ≠ s → p i = q i) → cntP q n = cntP p n + 1
  | 0, h, _ => by omega
  | n + 1, hs, h => by
    simp only [cntP]
    by_cases he : n = s
    · subst he
      rw [cntP_congr n fun i hi => h i (by omega) (by omega), hp, hq]; simp
    · rw [h n (by omega) he, cntP_up s hp hq n (by omega) fun i hi hne => h i (by omega) hne]
      omega
theorem cntP_pos {p : Nat → Bool} : ∀ n, 0 < cntP p n → ∃ i, i < n ∧ p i = true
  | 0, h => by simp [cntP] at h
  | n + 1, h => by
    simp only [cntP] at h
    cases hp : p n with
    | true => exact ⟨n, by omega, hp⟩
    | false =>
      rw [hp] at h
      obtain ⟨i, hi, hpi⟩ := cntP_pos n (by simpa using h)
      exact ⟨i, by omega, hpi⟩
theorem filter_cnt (p : Nat → Bool) : ∀ n, ((List.range n).filter p).length = cntP p n
  | 0 => rfl
  | n + 1 => by
    rw [List.range_succ, List.filter_append, List.length_append, filter_cnt p n]
    simp only [cntP]
    cases hp : p n <;> simp [hp]
theorem bitI_word (p : Nat → Bool) (n i : Nat) : bitI ((word p n : Nat) : Int) i = (decide (i < n) && p i) := by
  rw [← word_bit p n i]
  unfold bitI
  rw [Nat.testBit_eq_decide_div_mod_eq]
  congr 1
  rw [show (((word p n : Nat) : Int) / 2 ^ i) = ((word p n / 2 ^ i : Nat) : Int) by simp]
  simp only [eq_iff_iff]; omega
/-- How many seats are free. -/
def freeN (r : Roster) : Nat := cntP (fun s => !isOn r s) 64
theorem cntW_taken (r : Roster) : cntW (taken r) = 64 - (freeN r : Int) := by
  unfold cntW taken freeN
  rw [filter_cnt, cntP_congr 64 fun i hi => bitI_word (isOn r) 64 i, cntP_congr (q := isOn r) 64 fun i hi => by simp [hi]]
  have := cntP_not (isOn r) 64
  omega
theorem freeN_le (r : Roster) : freeN r ≤ 64 := cntP_le _ _

/-! ### Rosters that change -/
theorem ent_put (r : Roster) {s : Nat} (hs : s < 64) (e : Entry) (k : Nat) : ent (Arr.put r (s : Int) e) (k : Int) = if s = k then e else ent r (k : Int) := by
  rw [ent, get_put _ _ _ _ (by omega) (by omega) (by omega)]
  by_cases h : s = k
  · subst h; simp
  · have : ¬ (s : Int) = (k : Int) := by omega
    simp [h, this]
theorem isOn_put (r : Roster) {s : Nat} (hs : s < 64) (e : Entry) (k : Nat) : isOn (Arr.put r (s : Int) e) k = if s = k then !decide (e.Base = 0) else isOn r k := by
  unfold isOn
  rw [ent_put r hs]
  split <;> rfl
theorem fstN_congr {p q : Nat → Bool} : ∀ (d i : Nat), (∀ k, i ≤ k → k < i + d → p k = q k) → fstN d p i = fstN d q i
  | 0, _, _ => rfl
  | d + 1, i, h => by
    simp only [fstN]
    rw [h i (by omega) (by omega), fstN_congr d (i + 1) fun k h1 h2 => h k (by omega) (by omega)]
theorem findR_put {r : Roster} {s : Nat} (hs : s < 64) {w : Int} (hw : (ent r s).Who ≠ w) {e : Entry} (he : e.Base = 0 ∨ e.Who ≠ w) : findR (Arr.put r (s : Int) e) w = findR r w := by
  have : fstN 64 (fun k => isOn (Arr.put r (s : Int) e) k && decide ((ent (Arr.put r (s : Int) e) k).Who = w)) 0 = fstN 64 (fun k => isOn r k && decide ((ent r k).Who = w)) 0 := fstN_congr 64 0 fun k _ _ => by
    rw [isOn_put r hs, ent_put r hs]
    by_cases h : s = k
    · subst h
      rcases he with he | he
      · simp [he, hw]
      · simp [he, hw]
    · simp [h]
  unfold findR
  rw [this]
theorem freeN_leave {r : Roster} {s : Nat} (hs : s < 64) (hon : isOn r s = true) : freeN (Arr.put r (s : Int) zeroE) = freeN r + 1 := by
  unfold freeN
  refine cntP_up s (by simp [hon]) (by rw [isOn_put r hs]; simp) 64 hs fun i _ hne => ?_
  rw [isOn_put r hs, if_neg (fun h => hne h.symm)]
theorem freeN_join (r : Roster) {s : Nat} (hs : s < 64) (e : Entry) : freeN r ≤ freeN (Arr.put r (s : Int) e) + 1 := by
  unfold freeN
  refine cntP_change s 64 fun i _ hne => ?_
  rw [isOn_put r hs, if_neg (fun h => hne h.symm)]
theorem lowFree_ok {r : Roster} (h : 0 < freeN r) : ∃ s : Nat, s < 64 ∧ lowFree r = s ∧ isOn r s = false ∧ ∀ k, k < s → isOn r k = true := by
  obtain ⟨i, hi, hp⟩ := cntP_pos 64 h
  unfold lowFree
  cases hf : fstN 64 (fun s => !isOn r s) 0 with
  | none =>
    have := fstN_none hf i (by omega) (by omega)
    rw [this] at hp; cases hp
  | some s =>
    obtain ⟨_, h2, h3, h4⟩ := fstN_some hf
    exact ⟨s, by omega, rfl, by simpa using h3, fun k hk => by simpa using h4 k (by omega) hk⟩
theorem leaveGo_len : ∀ (l : List Int) (r : Roster), (leaveGo l r).2.length = l.length
  | [], _ => rfl
  | w :: l, r => by simp [leaveGo, leaveGo_len l]
theorem joinGo_len (since : Int) : ∀ (l : List Int) (b : Int) (r : Roster), (joinGo since l b r).2.length = l.length
  | [], _, _ => rfl
  | w :: l, b, r => by simp [joinGo, joinGo_len since l]
/-- Leavers that are on, each once. -/
def canLeave (r : Roster) (l : List Int) : Prop := (∀ w ∈ l, 0 ≤ findR r w) ∧ l.Nodup
theorem canLeave_next {r : Roster} {w : Int} {l : List Int} (h : canLeave r (w :: l)) : ∃ s : Nat, s < 64 ∧ findR r w = s ∧ isOn r s = true ∧ (ent r s).Who = w ∧ canLeave (Arr.put r (s : Int) zeroE) l := by
  obtain ⟨h1, h2⟩ := h
  obtain ⟨h3, h4⟩ := List.nodup_cons.1 h2
  obtain ⟨s, hs, he, hon, hw, _⟩ := findR_some (h1 w (List.mem_cons_self ..))
  refine ⟨s, hs, he, hon, hw, fun x hx => ?_, h4⟩
  have hne : x ≠ w := fun e => h3 (e ▸ hx)
  rw [findR_put hs (by rw [hw]; exact fun e => hne e.symm) (.inl rfl)]
  exact h1 x (List.mem_cons_of_mem _ hx)
theorem canLeave_free : ∀ {l : List Int} {r : Roster}, canLeave r l → freeN (leaveGo l r).1 = freeN r + l.length
  | [], r, _ => rfl
  | w :: l, r, h => by
    obtain ⟨s, hs, he, hon, _, hn⟩ := canLeave_next h
    simp only [leaveGo, he]
    rw [canLeave_free hn, freeN_leave hs hon]
    simp only [List.length_cons]; omega
theorem canLeave_of {r : Roster} {l : List Int} (h : askL r true l [] = 0) : canLeave r l :=
  ⟨fun w hw => (((askL_0 h).1 w hw).2.2.2).2 rfl, (askL_0 h).2⟩
theorem move_room {r : Roster} {b : Batch} (h : fits r b = 0) : b.Joins.length ≤ freeN (leaveGo b.Leaves r).1 ∧ b.Joins.length ≤ 64 ∧ b.Leaves.length ≤ 64 := by
  obtain ⟨_, h2, _, h4⟩ := fits_ok h
  have hf := canLeave_free (canLeave_of h2)
  have hl := freeN_le (leaveGo b.Leaves r).1
  rw [cntW_taken] at h4
  omega
theorem fine_seat_list {l : List Co.Seat} (h : Fine (.list (.st .seat)) l) : l.length * 16 ≤ 140737488355328 := (Fine.list.1 h).1

/-! ### The move itself -/
theorem leave_fold {Z : Type} (fin : List Co.Seat × Roster → Z) : ∀ (l : List Int) (acc : List Co.Seat) (r : Roster),
    foldE (fun (a : List Co.Seat × Roster) w => (Sum.inl (a.1 ++ [⟨w, findR a.2 w⟩], Arr.put a.2 (findR a.2 w) zeroE) : (List Co.Seat × Roster) ⊕ Z)) fin l (acc, r) = fin (acc ++ (leaveGo l r).2, (leaveGo l r).1)
  | [], acc, r => by simp [foldE, leaveGo]
  | w :: l, acc, r => by
    simp only [foldE, leaveGo]
    rw [leave_fold fin l]
    simp
theorem join_fold {Z : Type} (since base : Int) (fin : List Co.Seat × Roster → Z) : ∀ (l : List Int) (acc : List Co.Seat) (r : Roster),
    foldE (fun (a : List Co.Seat × Roster) w => (Sum.inl (a.1 ++ [⟨w, lowFree a.2⟩], Arr.put a.2 (lowFree a.2) ⟨w, base + a.1.length, since⟩) : (List Co.Seat × Roster) ⊕ Z)) fin l (acc, r) = fin (acc ++ (joinGo since l (base + acc.length) r).2, (joinGo since l (base + acc.length) r).1)
  | [], acc, r => by simp [foldE, joinGo]
  | w :: l, acc, r => by
    simp only [foldE, joinGo]
    rw [join_fold since base fin l]
    simp [Int.add_assoc]
section
variable {r : Roster} {b : Batch} {since base : Int}
theorem move_loop2 (hc : canLeave r b.Leaves) (hl : b.Leaves.length ≤ 256) :
    lfp g_ref09_Move_r2 ((since, base, (), (), (), [], (), b.Leaves, (b.Leaves.length : Int), 0, ()), (r, b, zeroR, ()), ()) = some ((since, base, (), (), (), (leaveGo b.Leaves r).2, (), ()), ((leaveGo b.Leaves r).1, b, zeroR, ()), ()) := by
  have h := lfp_list (f := g_ref09_Move_r2) b.Leaves (fun i (a : List Co.Seat × Roster) => ((since, base, (), (), (), a.1, (), b.Leaves, (b.Leaves.length : Int), (i : Int), ()), (a.2, b, zeroR, ()), ()))
    (fun a w => Sum.inl (a.1 ++ [⟨w, findR a.2 w⟩], Arr.put a.2 (findR a.2 w) zeroE)) (fun i todo a => canLeave a.2 todo ∧ a.1.length = i) (fun a => ((since, base, (), (), (), a.1, (), ()), (a.2, b, zeroR, ()), ()))
    (fun i x rest a _ hi hx ⟨ha, hal⟩ => by
      obtain ⟨s, hs, he, hon, hw, hn⟩ := canLeave_next ha
      refine ⟨fun a' ha' => ?_, ?_⟩
      · simp only [Sum.inl.injEq] at ha'
        subst ha'
        simp only [he]
        exact ⟨hn, by simp [hal]⟩
      · have h1 : (i : Int) < (b.Leaves.length : Int) := by omega
        have h2 : (a.1.length + 1) * 16 ≤ 140737488355328 := by omega
        have h3 : (s : Int) < 64 := by omega
        simp only [g_ref09_Move_r2, h1, hx, he, h2, h3, decide_true, cond_true, Int.natCast_nonneg, Bool.and_self, wrap1' hi (by omega)]
        rfl)
    (fun a _ => by simp [g_ref09_Move_r2]) b.Leaves 0 ([], r) rfl (by omega) ⟨hc, rfl⟩
  rw [leave_fold] at h
  simpa using h
theorem low_loop {a b' : Int} {c d : List Co.Seat} {e f j : Int} {h : List Int} {l : Roster} {i : Int} (hf : 0 < freeN r) :
    lfp g_ref09_Move_r4 ((a, b', (), (), c, d, e, f, 0, h, i, j, ()), (r, l, ()), ()) = some ((a, b', (), (), c, d, e, f, lowFree r, h, i, j, ()), (r, l, ()), ()) := by
  obtain ⟨s, hs, he, h0, h1⟩ := lowFree_ok hf
  rw [lfp_run' (fun k => ((a, b', (), (), c, d, e, f, (k : Int), h, i, j, ()), (r, l, ()), ())) s (by rfl) fun k hk => by
    have g1 : (k : Int) < 64 := by omega
    have g2 : ¬ (Arr.get r (k : Int)).Base = 0 := isOn_iff.1 (h1 k hk)
    simp only [g_ref09_Move_r4, g1, g2, decide_true, decide_false, Bool.not_false, cond_true, Int.natCast_nonneg, Bool.and_self, wrap1 k (by omega)]]
  rw [he]
  refine lfp_inr ?_
  have g1 : (s : Int) < 64 := by omega
  have g2 : (Arr.get r (s : Int)).Base = 0 := Classical.not_not.1 fun h => by rw [isOn_iff.2 h] at h0; cases h0
  simp only [g_ref09_Move_r4, g1, g2, decide_true, Bool.not_true, cond_true, cond_false, Int.natCast_nonneg, Bool.and_self]
theorem move_loop3 {left : List Co.Seat} {z : Roster} (hr : b.Joins.length ≤ freeN r) (hb : b.Joins ≠ [] → 1 ≤ base ∧ base ≤ 32768 - b.Joins.length) :
    lfp g_ref09_Move_r3 ((since, base, (), (), left, [], b.Joins, (b.Joins.length : Int), 0, ()), (r, z, ()), ()) = some (((), (), left, (joinGo since b.Joins base r).2, ()), ((joinGo since b.Joins base r).1, z, ()), ()) := by
  have hlen : b.Joins.length ≤ 64 := Nat.le_trans hr (freeN_le r)
  have h := lfp_list (f := g_ref09_Move_r3) b.Joins (fun i (a : List Co.Seat × Roster) => ((since, base, (), (), left, a.1, b.Joins, (b.Joins.length : Int), (i : Int), ()), (a.2, z, ()), ()))
    (fun a w => Sum.inl (a.1 ++ [⟨w, lowFree a.2⟩], Arr.put a.2 (lowFree a.2) ⟨w, base + a.1.length, since⟩)) (fun i todo a => todo.length ≤ freeN a.2 ∧ a.1.length = i) (fun a => (((), (), left, a.1, ()), (a.2, z, ()), ()))
    (fun i x rest a _ hi hx ⟨ha, hal⟩ => by
      simp only [List.length_cons] at ha
      have hpos : 0 < freeN a.2 := by omega
      obtain ⟨s, hs, he, _, _⟩ := lowFree_ok hpos
      refine ⟨fun a' ha' => ?_, ?_⟩
      · simp only [Sum.inl.injEq] at ha'
        subst ha'
        simp only [he]
        have := freeN_join a.2 hs ⟨x, base + a.1.length, since⟩
        exact ⟨by omega, by simp [hal]⟩
      · have h1 : (i : Int) < (b.Joins.length : Int) := by omega
        have h2 : (a.1.length + 1) * 16 ≤ 140737488355328 := by omega
        have h3 : (s : Int) < 64 := by omega
        have h2i : (i + 1) * 16 ≤ 140737488355328 := by omega
        have hb' := hb (fun e => by rw [e] at hi; simp at hi)
        have hw : IntKind.i64.wrap (base + (i : Int)) = base + (i : Int) := i64_in _ (by omega)
        simp only [g_ref09_Move_r3, h1, hx, decide_true, cond_true, Int.natCast_nonneg, Bool.and_self, low_loop hpos, Option.bind_some, he, h2i, h3, hw, hal, wrap1' hi (by omega)]
        rfl)
    (fun a _ => by simp [g_ref09_Move_r3]) b.Joins 0 ([], r) rfl (by omega) ⟨hr, rfl⟩
  rw [join_fold] at h
  simpa using h
theorem move_loop1 (hn : 0 < b.Joins.length) (h1 : 1 ≤ base) (h2 : base ≤ 32768 - b.Joins.length) (hlen : b.Joins.length ≤ 64) :
    lfp g_ref09_Move_r1 ((since, base, (), (), (), (b.Joins.length : Int), 0, ()), (r, b, zeroR, ()), ()) =
      some (bif allN 64 (fun s => !(decide (base ≤ (ent r s).Base) && decide ((ent r s).Base < base + b.Joins.length))) then .inr ((since, base, (), (), (), ()), (r, b, zeroR, ()), ()) else .inl (((), (), (), 3, ()), (zeroR, ()), ())) := by
  have hw : IntKind.i64.wrap (base + (b.Joins.length : Int)) = base + (b.Joins.length : Int) := i64_in _ (by omega)
  have hp : (0 : Int) < (b.Joins.length : Int) := by omega
  refine lfp_all' (fun i => ((since, base, (), (), (), (b.Joins.length : Int), (i : Int), ()), (r, b, zeroR, ()), ())) 64 _ _ _ rfl ?_ ?_ ?_
  · intro i hi hok
    have g1 : (i : Int) < 64 := by omega
    simp only [g_ref09_Move_r1, g1, hp, decide_true, cond_true, Int.natCast_nonneg, Bool.and_self, hw, wrap1 i (by omega)]
    by_cases a1 : base ≤ (Arr.get r (i : Int)).Base
    · have a2 : ¬ (Arr.get r (i : Int)).Base < base + (b.Joins.length : Int) := by simp [ent, a1] at hok; omega
      simp [a1, a2]
    · simp [a1]
  · intro i hi hok
    have g1 : (i : Int) < 64 := by omega
    have hok : base ≤ (Arr.get r (i : Int)).Base ∧ (Arr.get r (i : Int)).Base < base + (b.Joins.length : Int) := by simpa [ent] using hok
    simp only [g_ref09_Move_r1, g1, hp, decide_true, cond_true, Int.natCast_nonneg, Bool.and_self, hw, hok.1, hok.2]
  · simp [g_ref09_Move_r1]
end
theorem eq_ref09_Move : Eqs c_ref09_Move g_ref09_Move := Eqs.tot fun (r, b, since, base, _) hf => by
  change Int at since base
  change Batch at b
  have hbase : I64 base := fine_i.1 hf.2.2.2.1
  have zr : (Vector.replicate 64 (St.zero St.entry) : Roster) = zeroR := rfl
  simp only [g_ref09_Move, zr]
  by_cases h0 : fits r b = 0
  case neg =>
    have : move r b since base = ⟨zeroR, [], [], fits r b⟩ := by simp [move, h0]
    simp only [h0, this, decide_false, Bool.not_false, cond_true]
  obtain ⟨hroom, hJ, hL⟩ := move_room h0
  have hcl := canLeave_of (fits_ok h0).2.1
  by_cases h1 : since < 1
  · have g : ¬ 1 ≤ since := by omega
    have : move r b since base = ⟨zeroR, [], [], 19⟩ := by simp [move, h0, g]
    simp only [h0, h1, this, decide_true, Bool.not_true, cond_true, cond_false]
  by_cases h2 : 200 < since
  · have g : ¬ since ≤ 200 := by omega
    have : move r b since base = ⟨zeroR, [], [], 19⟩ := by simp [move, h0, g]
    simp only [h0, h1, h2, this, decide_true, decide_false, Bool.not_true, cond_true, cond_false]
  have g1 : 1 ≤ since := by omega
  have g2 : since ≤ 200 := by omega
  simp only [h0, h1, h2, decide_true, decide_false, Bool.not_true, cond_false]
  by_cases hn : 0 < b.Joins.length
  · have hp : (0 : Int) < (b.Joins.length : Int) := by omega
    have hne : ¬ ((b.Joins.length : Int) = 0) := by omega
    simp only [hp, decide_true, cond_true]
    rw [i64_in (32768 - (b.Joins.length : Int)) (by omega)]
    by_cases h3 : base < 1
    · have g : ¬ 1 ≤ base := by omega
      have : move r b since base = ⟨zeroR, [], [], 3⟩ := by
        have : ¬ b.Joins = [] := fun e => by rw [e] at hn; simp at hn
        simp [move, h0, g1, g2, namesFree, this, g]
      simp only [h3, this, decide_true, cond_true]
    by_cases h4 : 32768 - (b.Joins.length : Int) < base
    · have g : ¬ base ≤ 32768 - (b.Joins.length : Int) := by omega
      have : move r b since base = ⟨zeroR, [], [], 3⟩ := by
        have : ¬ b.Joins = [] := fun e => by rw [e] at hn; simp at hn
        simp [move, h0, g1, g2, namesFree, this, g]
      simp only [h3, h4, this, decide_true, decide_false, cond_true, cond_false]
    have g3 : 1 ≤ base := by omega
    have g4 : base ≤ 32768 - (b.Joins.length : Int) := by omega
    simp only [h3, h4, decide_false, cond_false]
    rw [move_loop1 hn g3 g4 hJ]
    have hm : move r b since base = bif allN 64 (fun s => !(decide (base ≤ (ent r s).Base) && decide ((ent r s).Base < base + b.Joins.length))) then moveGo r b since base else ⟨zeroR, [], [], 3⟩ := by
      unfold move namesFree
      simp only [h0, g1, g2, hne, g3, g4, decide_true, decide_false, cond_true, Bool.false_or, Bool.true_and, Bool.and_self]
    rw [hm]
    cases allN 64 (fun s => !(decide (base ≤ (ent r s).Base) && decide ((ent r s).Base < base + b.Joins.length))) with
    | false => rfl
    | true =>
      simp only [cond_true, Option.bind_some, Sum.elim_inr]
      rw [move_loop2 hcl (by omega)]
      simp only [Option.bind_some]
      rw [move_loop3 hroom fun _ => ⟨g3, g4⟩]
      rfl
  · have hz : b.Joins.length = 0 := by omega
    have hp : ¬ (0 : Int) < (b.Joins.length : Int) := by omega
    have hm : move r b since base = moveGo r b since base := by
      unfold move namesFree
      simp only [h0, g1, g2, hz, Int.natCast_zero, decide_true, cond_true, Bool.true_or, Bool.and_self]
    rw [hm]
    simp only [hp, decide_false, cond_false]
    rw [lfp_inr (z := .inr ((since, base, (), (), (), ()), (r, b, zeroR, ()), ())) (by simp [g_ref09_Move_r1, hz])]
    simp only [Option.bind_some, Sum.elim_inr]
    rw [move_loop2 hcl (by omega)]
    simp only [Option.bind_some]
    rw [move_loop3 hroom fun h => absurd (List.length_eq_zero_iff.1 hz) h]
    rfl
end Go.Co.N
end

section
namespace Go.Co.N
open Go Go.Co

/-! ### Replaced nodes -/
def hitB (l : List Co.Seat) (v : Nat) : Bool := l.any fun s => below v (leaf s.Slot)
theorem replaced_eq (l : List Co.Seat) : replaced l = ((word (hitB l) 21 : Nat) : Int) := rfl
theorem hit_fold {Z : Type} (v : Int) (y n : Z) : ∀ l : List Co.Seat, foldE (fun (_ : Unit) (s : Co.Seat) => bif below v (leaf s.Slot) then (Sum.inr y : Unit ⊕ Z) else Sum.inl ()) (fun _ => n) l () = bif l.any (fun s => below v (leaf s.Slot)) then y else n
  | [] => rfl
  | s :: l => by
    simp only [foldE, List.any_cons]
    cases below v (leaf s.Slot) with
    | true => rfl
    | false => simp only [cond_false, Bool.false_or]; exact hit_fold v y n l
theorem pow_u32 {v : Nat} (h : v < 21) : (2 : Nat) ^ v ≤ 1048576 := Nat.le_trans (Nat.pow_le_pow_right (by omega) (show v ≤ 20 by omega)) (by decide)
theorem eq_ref11_Replaced : Eqs c_ref11_Replaced g_ref11_Replaced := Eqs.tot fun (l, _) hf => by
  have hlen : List.length (l : List Co.Seat) * 16 ≤ 140737488355328 := fine_seat_list hf.1
  simp only [g_ref11_Replaced]
  rw [lfp_run' (fun v => (((l : List Co.Seat), ((word (hitB l) v : Nat) : Int), ((2 ^ v : Nat) : Int), (v : Int), ()), (), ())) 21 (by rfl) fun v hv => by
    have h1 : (v : Int) < 21 := by omega
    have hw := word_lt (hitB l) v
    have hp := pow_u32 hv
    have hin := lfp_list (f := g_ref11_Replaced_r2) (l : List Co.Seat) (fun i (_ : Unit) => (((l : List Co.Seat), ((word (hitB l) v : Nat) : Int), ((2 ^ v : Nat) : Int), (v : Int), (l : List Co.Seat), (List.length (l : List Co.Seat) : Int), (i : Int), ()), (), ()))
      (fun _ s => bif below v (leaf s.Slot) then Sum.inr (((l : List Co.Seat), ((word (hitB l) v : Nat) : Int) + ((2 ^ v : Nat) : Int), ((2 ^ v : Nat) : Int), (v : Int), ()), (), ()) else Sum.inl ()) (fun _ _ _ => True) (fun _ => (((l : List Co.Seat), ((word (hitB l) v : Nat) : Int), ((2 ^ v : Nat) : Int), (v : Int), ()), (), ()))
      (fun i x rest a _ hi hx _ => by
        refine ⟨fun _ _ => trivial, ?_⟩
        have g1 : (i : Int) < (List.length (l : List Co.Seat) : Int) := by omega
        have w2 : IntKind.u32.wrap (((word (hitB l) v : Nat) : Int) + ((2 ^ v : Nat) : Int)) = ((word (hitB l) v : Nat) : Int) + ((2 ^ v : Nat) : Int) := Go.IntWalk.u32_in _ (by omega)
        simp only [g_ref11_Replaced_r2, g1, hx, decide_true, cond_true, Int.natCast_nonneg, Bool.and_self, wrap1' hi (by omega), w2]
        cases below (v : Int) (leaf x.Slot) <;> rfl)
      (fun a _ => by simp [g_ref11_Replaced_r2]) l 0 () rfl (by omega) trivial
    rw [hit_fold] at hin
    have hin' : lfp g_ref11_Replaced_r2 (((l : List Co.Seat), ((word (hitB l) v : Nat) : Int), ((2 ^ v : Nat) : Int), (v : Int), (l : List Co.Seat), (List.length (l : List Co.Seat) : Int), 0, ()), (), ()) = some (((l : List Co.Seat), ((word (hitB l) (v + 1) : Nat) : Int), ((2 ^ v : Nat) : Int), (v : Int), ()), (), ()) := by
      refine hin.trans ?_
      simp only [word]
      cases hh : hitB l v with
      | true => rw [show (List.any (l : List Co.Seat) fun s => below v (leaf s.Slot)) = true from hh]; simp
      | false => rw [show (List.any (l : List Co.Seat) fun s => below v (leaf s.Slot)) = false from hh]; simp
    have w3 : IntKind.u32.wrap (((2 ^ v : Nat) : Int) * 2) = ((2 ^ (v + 1) : Nat) : Int) := by
      rw [Go.IntWalk.u32_in _ (by omega), Nat.pow_succ]; omega
    simp only [g_ref11_Replaced_r1, h1, decide_true, cond_true, hin', Option.bind_some, w3, wrap1 v (by omega)]]
  rw [lfp_inr (z := ((((word (hitB l) 21 : Nat) : Int), ()), (), ())) (by simp [g_ref11_Replaced_r1])]
  rfl

/-! ### Steps -/
theorem gone_fold {Z : Type} (r : Roster) (fin : List Co.Seat → Z) : ∀ (l : List Int) (acc : List Co.Seat),
    foldE (fun (a : List Co.Seat) w => (Sum.inl (a ++ [⟨w, findR r w⟩]) : List Co.Seat ⊕ Z)) fin l acc = fin (acc ++ goneOf r l)
  | [], acc => by simp [foldE, goneOf]
  | w :: l, acc => by
    simp only [foldE]
    rw [gone_fold r fin l]
    simp [goneOf]
theorem turn_fresh {k : Keys} {m f : Int} (h : (turn k m f).2.2 = 0) : (turn k m f).2.1 = f + cntTo m 21 := by rw [(turn_ok h).2.2.2.2]
theorem move_joined {r : Roster} {b : Batch} {since base : Int} (h : (move r b since base).e = 0) : (move r b since base) = moveGo r b since base ∧ fits r b = 0 ∧ (1 ≤ since ∧ since ≤ 200) ∧ namesFree r base b.Joins.length = true := by
  unfold move at h ⊢
  by_cases h0 : fits r b = 0
  · by_cases h1 : 1 ≤ since ∧ since ≤ 200
    · have h1' : (decide (1 ≤ since) && decide (since ≤ 200)) = true := by simp [h1.1, h1.2]
      cases h2 : namesFree r base b.Joins.length with
      | true => simp only [h0, h1', decide_true, cond_true]; exact ⟨trivial, trivial, h1, trivial⟩
      | false => simp [h0, h1', h2] at h
    · have h1' : (decide (1 ≤ since) && decide (since ≤ 200)) = false := by
        apply Bool.eq_false_iff.2; intro h; exact h1 (by simpa using h)
      simp [h0, h1'] at h
  · simp [h0] at h
theorem eq_ref11_Next : Eqs c_ref11_Next g_ref11_Next := Eqs.tot fun (t, b, _) hf => by
  change Tree at t
  change Batch at b
  simp only [g_ref11_Next, chkT_0]
  by_cases hg : goodTree t = true
  case neg =>
    have : nextT t b = ⟨zeroT, [], [], 31⟩ := by simp [nextT, hg]
    simp only [hg, this]; rfl
  by_cases he : t.Epoch = 200
  · have : nextT t b = ⟨zeroT, [], [], 19⟩ := by simp [nextT, hg, he]
    simp only [hg, he, this]; rfl
  by_cases hfi : fits t.Roster b = 0
  case neg =>
    have : nextT t b = ⟨zeroT, [], [], fits t.Roster b⟩ := by simp [nextT, hg, he, hfi]
    simp only [hg, he, hfi, this, decide_true, decide_false, Bool.not_true, Bool.not_false, cond_true, cond_false]; rfl
  have hgt := goodTree_iff.1 hg
  have hL := askL_len (fits_ok hfi).2.1
  obtain ⟨_, hJ, _⟩ := move_room hfi
  simp only [hg, he, hfi, decide_true, decide_false, Bool.not_true, cond_false]
  have hloop := lfp_list (f := g_ref11_Next_r1) b.Leaves (fun i (a : List Co.Seat) => (((), (), (), a, b.Leaves, (b.Leaves.length : Int), (i : Int), ()), (t, b, St.zero St.tree, ()), ()))
    (fun a w => Sum.inl (a ++ [⟨w, findR t.Roster w⟩])) (fun i _ a => a.length = i) (fun a => (((), (), (), a, ()), (t, b, St.zero St.tree, ()), ()))
    (fun i x rest a _ hi hx ha => by
      refine ⟨fun a' ha' => ?_, ?_⟩
      · simp only [Sum.inl.injEq] at ha'
        subst ha'; simp [ha]
      · have h1 : (i : Int) < (b.Leaves.length : Int) := by omega
        have h2 : (a.length + 1) * 16 ≤ 140737488355328 := by omega
        simp only [g_ref11_Next_r1, h1, hx, h2, decide_true, cond_true, Int.natCast_nonneg, Bool.and_self, wrap1' hi (by omega)]
        rfl)
    (fun a _ => by simp [g_ref11_Next_r1]) b.Leaves 0 [] rfl (by omega) rfl
  rw [gone_fold] at hloop
  rw [show lfp g_ref11_Next_r1 (((), (), (), [], b.Leaves, (b.Leaves.length : Int), 0, ()), (t, b, St.zero St.tree, ()), ()) = _ from hloop]
  simp only [List.nil_append, Option.bind_some]
  have hst : turn t.Keys (replaced (goneOf t.Roster b.Leaves)) t.Fresh = stepTurn t b := rfl
  rw [i64_in (t.Epoch + 1) (by omega)]
  simp only [hst]
  by_cases ht : (stepTurn t b).2.2 = 0
  case neg =>
    have : nextT t b = ⟨zeroT, [], [], (stepTurn t b).2.2⟩ := by simp [nextT, hg, he, hfi, ht]
    simp only [ht, this, decide_false, Bool.not_false, cond_true]; rfl
  have hmv : move t.Roster b (t.Epoch + 1) (stepTurn t b).2.1 = stepMove t b := rfl
  simp only [ht, decide_true, Bool.not_true, cond_false, hmv]
  by_cases hm : (stepMove t b).e = 0
  case neg =>
    have : nextT t b = ⟨zeroT, [], [], (stepMove t b).e⟩ := by simp [nextT, hg, he, hfi, ht, hm]
    simp only [hm, this, decide_false, Bool.not_false, cond_true]; rfl
  have hfr := turn_fresh ht
  have hcnt := cntTo_le (replaced (goneOf t.Roster b.Leaves)) 21
  have hjl : (stepMove t b).joined.length = b.Joins.length := by
    have := (move_joined hm).1
    unfold stepMove
    rw [this, moveGo]
    exact joinGo_len _ _ _ _
  have hw : IntKind.i64.wrap ((stepTurn t b).2.1 + ((stepMove t b).joined.length : Int)) = (stepTurn t b).2.1 + ((stepMove t b).joined.length : Int) := by
    rw [hjl]
    unfold stepTurn at hfr ⊢
    exact i64_in _ (by omega)
  have : nextT t b = ⟨⟨t.Epoch + 1, (stepTurn t b).2.1 + (stepMove t b).joined.length, (stepTurn t b).1, (stepMove t b).r⟩, (stepMove t b).left, (stepMove t b).joined, 0⟩ := by simp [nextT, hg, he, hfi, ht, hm]
  simp only [hm, this, decide_true, Bool.not_true, cond_false, hw]

/-! ### Messages -/
/-- The items of the first i children. -/
def kidItems (t : Tree) (v i : Nat) : List Co.Item := ((List.range i).filter fun (i : Nat) => belowR t.Roster (child v i)).map fun (i : Nat) => itemOf t v (child v i)
theorem kidItems_succ (t : Tree) (v i : Nat) : kidItems t v (i + 1) = kidItems t v i ++ (bif belowR t.Roster (child v i) then [itemOf t v (child v i)] else []) := by
  unfold kidItems
  rw [List.range_succ, List.filter_append, List.map_append]
  cases h : belowR t.Roster (child v i) <;> simp [h]
theorem kidItems_len (t : Tree) (v i : Nat) : (kidItems t v i).length ≤ i := by
  unfold kidItems
  have := List.length_filter_le (fun (i : Nat) => belowR t.Roster (child v i)) (List.range i)
  simpa using this
theorem nodeItems_len (t : Tree) (m : Int) (v : Nat) : (nodeItems t m v).length ≤ 4 := by
  unfold nodeItems
  cases inB m v with
  | false => simp
  | true => exact kidItems_len t v 4
def legItems (t : Tree) (m s : Int) (i : Nat) : List Co.Item := ((List.range i).filter fun (i : Nat) => !inB m (Arr.get (pathG s) (i : Int))).map fun (i : Nat) => itemOf t (Arr.get (pathG s) (i : Int)) (leaf s)
theorem legItems_succ (t : Tree) (m s : Int) (i : Nat) : legItems t m s (i + 1) = legItems t m s i ++ (bif !inB m (Arr.get (pathG s) (i : Int)) then [itemOf t (Arr.get (pathG s) (i : Int)) (leaf s)] else []) := by
  unfold legItems
  rw [List.range_succ, List.filter_append, List.map_append]
  cases h : inB m (Arr.get (pathG s) (i : Int)) <;> simp [h]
theorem legItems_len (t : Tree) (m s : Int) (i : Nat) : (legItems t m s i).length ≤ i := by
  unfold legItems
  have := List.length_filter_le (fun (i : Nat) => !inB m (Arr.get (pathG s) (i : Int))) (List.range i)
  simpa using this
theorem join_items_fold {Z : Type} (t : Tree) (m : Int) (fin : List Co.Item → Z) : ∀ (l : List Co.Seat) (acc : List Co.Item),
    foldE (fun (a : List Co.Item) (s : Co.Seat) => (Sum.inl (a ++ joinItems t m s.Slot) : List Co.Item ⊕ Z)) fin l acc = fin (acc ++ l.flatMap fun s => joinItems t m s.Slot)
  | [], acc => by simp [foldE]
  | s :: l, acc => by
    simp only [foldE]
    rw [join_items_fold t m fin l]
    simp
theorem itemsUp_len (t : Tree) (m : Int) : ∀ n, (itemsUp t m n).length ≤ 4 * n
  | 0 => by simp [itemsUp]
  | n + 1 => by
    have h1 := itemsUp_len t m n
    have h2 := nodeItems_len t m n
    simp only [itemsUp, List.length_append]; omega
theorem nextT_ok {t : Tree} {b : Batch} (h : (nextT t b).e = 0) : goodTree t = true ∧ t.Epoch < 200 ∧ fits t.Roster b = 0 ∧ (stepTurn t b).2.2 = 0 ∧ (stepMove t b).e = 0 ∧
    nextT t b = ⟨⟨t.Epoch + 1, (stepTurn t b).2.1 + b.Joins.length, (stepTurn t b).1, (stepMove t b).r⟩, (stepMove t b).left, (stepMove t b).joined, 0⟩ := by
  by_cases hg : goodTree t = true
  case neg => simp [nextT, hg] at h
  by_cases he : t.Epoch = 200
  · simp [nextT, hg, he] at h
  by_cases hfi : fits t.Roster b = 0
  case neg => simp [nextT, hg, he, hfi] at h
  by_cases ht : (stepTurn t b).2.2 = 0
  case neg => simp [nextT, hg, he, hfi, ht] at h
  by_cases hm : (stepMove t b).e = 0
  case neg => simp [nextT, hg, he, hfi, ht, hm] at h
  have hjl : (stepMove t b).joined.length = b.Joins.length := by
    have := (move_joined hm).1
    unfold stepMove
    rw [this, moveGo]
    exact joinGo_len _ _ _ _
  refine ⟨hg, by have := (goodTree_iff.1 hg).2.1; omega, hfi, ht, hm, ?_⟩
  simp [nextT, hg, he, hfi, ht, hm, hjl]
theorem nextT_joined {t : Tree} {b : Batch} (h : (nextT t b).e = 0) : (nextT t b).joined.length = b.Joins.length ∧ (nextT t b).left.length = b.Leaves.length ∧ b.Joins.length ≤ 64 ∧ b.Leaves.length ≤ 64 := by
  obtain ⟨_, _, hfi, _, hm, he⟩ := nextT_ok h
  obtain ⟨_, h1, h2⟩ := move_room hfi
  have hmv := (move_joined hm).1
  rw [he]
  refine ⟨?_, ?_, h1, h2⟩
  · show (stepMove t b).joined.length = _
    unfold stepMove
    rw [hmv, moveGo]; exact joinGo_len _ _ _ _
  · show (stepMove t b).left.length = _
    unfold stepMove
    rw [hmv, moveGo]; exact leaveGo_len _ _
end Go.Co.N
end

section
namespace Go.Co.N
open Go Go.Co

/-! ### The lowest bit -/
theorem low_form : ∀ (d x : Nat), 0 < x → x < 2 ^ d → ∃ k m, k < d ∧ x = 2 ^ k * (2 * m + 1)
  | 0, x, h0, h1 => by simp at h1; omega
  | d + 1, x, h0, h1 => by
    by_cases ho : x % 2 = 1
    · exact ⟨0, x / 2, by omega, by simp; omega⟩
    · obtain ⟨k, m, hk, he⟩ := low_form d (x / 2) (by omega) (by rw [Nat.pow_succ] at h1; omega)
      exact ⟨k + 1, m, by omega, by rw [Nat.pow_succ, Nat.mul_assoc, Nat.mul_comm 2, ← Nat.mul_assoc, ← he]; omega⟩
theorem testBit_form (k m i : Nat) : (2 ^ k * (2 * m + 1)).testBit i = (decide (i = k) || (decide (k < i) && m.testBit (i - k - 1))) := by
  rw [Nat.testBit_two_pow_mul]
  by_cases h : i < k
  · have h1 : ¬ i = k := by omega
    have h2 : ¬ k < i := by omega
    have h3 : ¬ i ≥ k := by omega
    simp [h1, h2, h3]
  · by_cases he : i = k
    · subst he; simp
    · have h2 : k < i := by omega
      have h3 : i ≥ k := by omega
      obtain ⟨j, hj⟩ := Nat.exists_eq_add_of_lt h2
      have e1 : i - k = j + 1 := by omega
      simp only [h3, he, h2, e1, decide_true, decide_false, Bool.true_and, Bool.false_or]
      rw [Nat.testBit_succ]
      congr 1
      omega
theorem pred_form (k m : Nat) : 2 ^ k * (2 * m + 1) - 1 = 2 ^ k * (2 * m) + (2 ^ k - 1) := by
  have : 0 < 2 ^ k := Nat.pow_pos (by omega)
  rw [Nat.mul_add, Nat.mul_one]; omega
theorem and_pred_form (k m : Nat) : (2 ^ k * (2 * m + 1)) &&& (2 ^ k * (2 * m + 1) - 1) = 2 ^ k * (2 * m) := by
  have hp : 2 ^ k - 1 < 2 ^ k := by have : 0 < 2 ^ k := Nat.pow_pos (by omega); omega
  apply Nat.eq_of_testBit_eq
  intro i
  rw [Nat.testBit_and, pred_form, Nat.testBit_two_pow_mul_add _ hp, testBit_form, Nat.testBit_two_pow_mul]
  by_cases h : i < k
  · have h1 : ¬ i = k := by omega
    have h2 : ¬ k < i := by omega
    have h3 : ¬ i ≥ k := by omega
    simp [h1, h2, h3]
  · by_cases he : i = k
    · subst he; simp
    · have h2 : k < i := by omega
      have h3 : i ≥ k := by omega
      obtain ⟨j, hj⟩ := Nat.exists_eq_add_of_lt h2
      have e1 : i - k = j + 1 := by omega
      simp only [h, h3, he, h2, e1, decide_true, decide_false, Bool.true_and, Bool.false_or, if_false]
      rw [Nat.testBit_succ]
      have e2 : 2 * m / 2 = m := by omega
      have e3 : j + 1 - 1 = j := by omega
      rw [e2, e3]; simp
/-- The place of the lowest bit; 64 for none. -/
def tzN (x : Nat) : Nat := match fstN 64 (fun i => x.testBit i) 0 with | some i => i | none => 64
theorem tz_form {k m : Nat} (hk : k < 64) : tzN (2 ^ k * (2 * m + 1)) = k := by
  unfold tzN
  cases hf : fstN 64 (fun i => (2 ^ k * (2 * m + 1)).testBit i) 0 with
  | none =>
    have := fstN_none hf k (by omega) (by omega)
    rw [testBit_form] at this
    simp at this
  | some i =>
    obtain ⟨_, hi, hb, hl⟩ := fstN_some hf
    rw [testBit_form] at hb
    simp only
    by_cases h : k < i
    · have := hl k (by omega) h
      rw [testBit_form] at this
      simp at this
    · have h2 : ¬ k < i := h
      simpa [h2] using hb
/-- The slots of a word, rising. -/
def bitsL (x : Nat) : List Nat := (List.range 64).filter fun i => x.testBit i
theorem bitsL_form {k m : Nat} (hk : k < 64) : bitsL (2 ^ k * (2 * m + 1)) = k :: bitsL (2 ^ k * (2 * m)) := by
  unfold bitsL
  have hsplit : List.range 64 = List.range k ++ k :: (List.range (63 - k)).map (k + 1 + ·) := by
    have e1 : List.range 64 = List.range k ++ (List.range (64 - k)).map (k + ·) := by
      have := List.range_add (n := k) (m := 64 - k)
      rw [show k + (64 - k) = 64 by omega] at this
      exact this
    rw [e1, show 64 - k = (63 - k) + 1 by omega, List.range_succ_eq_map]
    simp only [List.map_cons, List.map_map, Nat.add_zero]
    congr 2
    refine List.map_congr_left fun i _ => ?_
    simp only [Function.comp]; omega
  rw [hsplit]
  simp only [List.filter_append, List.filter_cons]
  have h1 : (List.range k).filter (fun i => (2 ^ k * (2 * m + 1)).testBit i) = [] := by
    refine List.filter_eq_nil_iff.2 fun i hi => ?_
    have hi : i < k := by simpa using hi
    have a1 : ¬ i = k := by omega
    have a2 : ¬ k < i := by omega
    rw [testBit_form]; simp [a1, a2]
  have h2 : (List.range k).filter (fun i => (2 ^ k * (2 * m)).testBit i) = [] := by
    refine List.filter_eq_nil_iff.2 fun i hi => ?_
    have hi : i < k := by simpa using hi
    have a3 : ¬ i ≥ k := by omega
    rw [Nat.testBit_two_pow_mul]; simp [a3]
  have h3 : (2 ^ k * (2 * m + 1)).testBit k = true := by rw [testBit_form]; simp
  have h4 : (2 ^ k * (2 * m)).testBit k = false := by rw [Nat.testBit_two_pow_mul]; simp
  rw [h1, h2, h3, h4]
  simp only [List.nil_append, if_true, Bool.false_eq_true, if_false]
  congr 1
  refine List.filter_congr fun i hi => ?_
  obtain ⟨j, _, rfl⟩ := List.mem_map.1 hi
  rw [testBit_form, Nat.testBit_two_pow_mul]
  have a1 : ¬ k + 1 + j = k := by omega
  have a2 : k < k + 1 + j := by omega
  have a3 : k + 1 + j ≥ k := by omega
  have a4 : k + 1 + j - k = j + 1 := by omega
  have a5 : k + 1 + j - k - 1 = j := by omega
  simp only [a1, a2, a3, a4, decide_true, decide_false, Bool.false_or, Bool.true_and, Nat.add_sub_cancel]
  rw [Nat.testBit_succ]
  congr 1; omega
theorem bitsL_zero : bitsL 0 = [] := by unfold bitsL; simp
/-- A word that isn't empty: its lowest slot, and the others. -/
theorem bitsL_cons {x : Nat} (h0 : 0 < x) (h1 : x < 2 ^ 64) : tzN x < 64 ∧ bitsL x = tzN x :: bitsL (x &&& (x - 1)) ∧ (x &&& (x - 1)) < x := by
  obtain ⟨k, m, hk, rfl⟩ := low_form 64 x h0 h1
  rw [tz_form hk, and_pred_form]
  refine ⟨hk, bitsL_form hk, ?_⟩
  have : 0 < 2 ^ k := Nat.pow_pos (by omega)
  rw [Nat.mul_add, Nat.mul_one]; omega

/-! ### The table -/
theorem neg_form {k m : Nat} (hk : k < 64) (h : 2 ^ k * (2 * m + 1) < 2 ^ 64) : (2 ^ k * (2 * m + 1)) &&& (2 ^ 64 - 2 ^ k * (2 * m + 1)) = 2 ^ k := by
  have hpk : 0 < 2 ^ k := Nat.pow_pos (by omega)
  have e64 : 2 ^ 64 = 2 ^ k * 2 ^ (64 - k) := by rw [← Nat.pow_add]; congr 1; omega
  have hm : 2 * m + 1 < 2 ^ (64 - k) := by
    rw [e64] at h
    exact Nat.lt_of_mul_lt_mul_left h
  have hev : ∃ q, 2 ^ (64 - k) = 2 * q := ⟨2 ^ (63 - k), by rw [show 64 - k = (63 - k) + 1 by omega, Nat.pow_succ, Nat.mul_comm]⟩
  obtain ⟨q, hq⟩ := hev
  have e1 : 2 ^ 64 - 2 ^ k * (2 * m + 1) = 2 ^ k * (2 * (q - m - 1) + 1) := by
    rw [e64, hq, ← Nat.mul_sub]
    congr 1; omega
  rw [e1]
  apply Nat.eq_of_testBit_eq
  intro i
  rw [Nat.testBit_and, testBit_form, testBit_form, Nat.testBit_two_pow]
  by_cases he : i = k
  · subst he; simp
  · have he' : ¬ k = i := fun e => he e.symm
    by_cases h2 : k < i
    · simp only [he, he', h2, decide_true, decide_false, Bool.false_or, Bool.true_and]
      have hmq : m < q := by omega
      have hq2 : q = 2 ^ (63 - k) := by
        have : 2 ^ (64 - k) = 2 * 2 ^ (63 - k) := by rw [show 64 - k = (63 - k) + 1 by omega, Nat.pow_succ, Nat.mul_comm]
        omega
      -- m and its complement
      have hc : q - m - 1 = 2 ^ (63 - k) - (m + 1) := by omega
      rw [hc, Nat.testBit_two_pow_sub_succ (by omega)]
      cases m.testBit (i - k - 1) <;> simp
    · simp [he, he', h2]
theorem tab_ok : ((List.range 64).all fun k => decide (tab64[(2 ^ k * 285870213051353865 % 2 ^ 64) / 288230376151711744]? = some k)) = true := by decide +kernel
theorem tab_at {k : Nat} (hk : k < 64) : tab64[(2 ^ k * 285870213051353865 % 2 ^ 64) / 288230376151711744]? = some k := by
  have := List.all_eq_true.1 tab_ok k (by simpa using hk)
  simpa using this
theorem tab_low {x : Nat} (h0 : 0 < x) (h1 : x < 2 ^ 64) : tab64[((x &&& (2 ^ 64 - x)) * 285870213051353865 % 2 ^ 64) / 288230376151711744]? = some (tzN x) := by
  obtain ⟨k, m, hk, rfl⟩ := low_form 64 x h0 h1
  rw [tz_form hk, neg_form hk h1]
  exact tab_at hk
end Go.Co.N
end

section
namespace Go.Co.N
open Go Go.Co

/-! ### Sets of slots -/
abbrev c_bits_OnesCount64 : Con := ⟨[.int .u64], [.i], fun x => some (cntW x.1, ())⟩
abbrev c_seats_Count : Con := ⟨[.int .u64], [.i], fun x => some (cntW x.1, ())⟩
def bitOf (s : Int) : Int := if 0 ≤ s ∧ s < 64 then ((2 ^ s.toNat : Nat) : Int) else 0
abbrev c_seats_bit : Con := ⟨[.i], [.int .u64], fun x => some (bitOf x.1, ())⟩
/-- A word with these slots. -/
def orL (s : Nat) (l : List Nat) : Nat := l.foldl (fun a i => a ||| 2 ^ i) s
/-- The free slots, rising. -/
def freeL (s : Int) : List Nat := (List.range 64).filter fun i => !bitI s i
def takeW (s n : Int) : List Int × Int × Int :=
  if n < 0 then ([], 0, 1) else if 64 - cntW s < n then ([], 0, 18) else
    (((freeL s).take n.toNat).map fun (i : Nat) => (i : Int), ((orL s.toNat ((freeL s).take n.toNat) : Nat) : Int), 0)
abbrev c_seats_Take : Con := ⟨[.int .u64, .i], [.list .i, .int .u64, .i], fun x => some ((takeW x.1 x.2.1).1, (takeW x.1 x.2.1).2.1, (takeW x.1 x.2.1).2.2, ())⟩
abbrev c_shape_Child : Con := ⟨[.i, .i], [.i], fun x => some (child x.1 x.2.1, ())⟩

/-! ### Batches -/
abbrev c_roster_Fits : Con := ⟨[.arr 64 (.st .entry), .st .batch], [.i], fun x => some (fits x.1 x.2.1, ())⟩
abbrev c_roster_names : Con := ⟨[.arr 64 (.st .entry), .i, .i], [.bool], fun x => guardK (decide (0 ≤ x.2.2.1) && decide (x.2.2.1 ≤ 64)) (some (namesFree x.1 x.2.1 x.2.2.1, ()))⟩
abbrev c_roster_Move : Con := ⟨[.arr 64 (.st .entry), .st .batch, .i, .i], [.arr 64 (.st .entry), .list (.st .seat), .list (.st .seat), .i],
  fun x => some ((move x.1 x.2.1 x.2.2.1 x.2.2.2.1).r, (move x.1 x.2.1 x.2.2.1 x.2.2.2.1).left, (move x.1 x.2.1 x.2.2.1 x.2.2.2.1).joined, (move x.1 x.2.1 x.2.2.1 x.2.2.2.1).e, ())⟩

/-! ### Plans -/
abbrev c_plan_leavers : Con := ⟨[.arr 64 (.st .entry), .list .i], [.list (.st .seat)], fun x => guardK (decide (List.length x.2.1 ≤ 64)) (some (goneOf x.1 x.2.1, ()))⟩
abbrev c_plan_step : Con := ⟨[.st .tree, .st .batch], [.st .tree, .st .rekey, .i],
  fun x => some ((nextT x.1 x.2.1).t, ⟨(nextT x.1 x.2.1).t.Epoch, (nextT x.1 x.2.1).left, (nextT x.1 x.2.1).joined, []⟩, (nextT x.1 x.2.1).e, ())⟩
def nodeK (t : Tree) (v : Int) : Key := bif decide (0 ≤ slot v) then (leafAt (Arr.get t.Roster (slot v)) t.Epoch).1 else Arr.get t.Keys v
abbrev c_plan_nodeKey : Con := ⟨[.st .tree, .i], [.st .key], fun x => guardK (betw x.2.1 0 84) (some (nodeK x.1 x.2.1, ()))⟩
/-- A right tree, and joiners that are on. -/
def calls (t : Tree) (m : Rekey) : Bool := goodTree t && decide (m.Joins.length ≤ 64) && m.Joins.all fun s => betw s.Slot 0 63 && isOn t.Roster s.Slot.toNat
abbrev c_plan_items : Con := ⟨[.st .tree, .st .rekey], [.list (.st .item)], fun x => guardK (calls x.1 x.2.1) (some (items x.1 x.2.1.Leaves x.2.1.Joins, ()))⟩
abbrev c_plan_Next : Con := ⟨[.st .tree, .st .batch], [.st .tree, .st .rekey, .i], fun x => some ((nextR x.1 x.2.1).1, (nextR x.1 x.2.1).2.1, (nextR x.1 x.2.1).2.2, ())⟩
/-! ### The laws of chapter 12 -/
end Go.Co.N
end

section
set_option maxRecDepth 100000
noncomputable section
namespace Go.Co.N
open Go Go.Co
/-- coterie/shape.Child -/
def g_shape_Child : Int × Int × Unit → Option (Int × Unit)
  | (a, b, _) => bif decide (a < 0) then some (-1, ()) else bif decide (21 ≤ a) then some (-1, ()) else bif decide (b < 0) then some (-1, ()) else bif decide (4 ≤ b) then some (-1, ()) else some (IntKind.wrap IntKind.i64 (IntKind.wrap IntKind.i64 (shlI IntKind.i64 a 2 + 1) + b), ())
/-- math/bits.OnesCount64 -/
def g_bits_OnesCount64 : Int × Unit → Option (Int × Unit)
  | (a, _) => some (bw BinOp.and IntKind.i64 (IntKind.wrap IntKind.i64 (IntKind.wrap IntKind.u64 (IntKind.wrap IntKind.u64 (IntKind.wrap IntKind.u64 (bw BinOp.and IntKind.u64 (IntKind.wrap IntKind.u64 (shrI IntKind.u64 (IntKind.wrap IntKind.u64 (bw BinOp.and IntKind.u64 (shrI IntKind.u64 (IntKind.wrap IntKind.u64 (bw BinOp.and IntKind.u64 (shrI IntKind.u64 a 1) 6148914691236517205 + bw BinOp.and IntKind.u64 a 6148914691236517205)) 2) 3689348814741910323 + bw BinOp.and IntKind.u64 (IntKind.wrap IntKind.u64 (bw BinOp.and IntKind.u64 (shrI IntKind.u64 a 1) 6148914691236517205 + bw BinOp.and IntKind.u64 a 6148914691236517205)) 3689348814741910323)) 4 + IntKind.wrap IntKind.u64 (bw BinOp.and IntKind.u64 (shrI IntKind.u64 (IntKind.wrap IntKind.u64 (bw BinOp.and IntKind.u64 (shrI IntKind.u64 a 1) 6148914691236517205 + bw BinOp.and IntKind.u64 a 6148914691236517205)) 2) 3689348814741910323 + bw BinOp.and IntKind.u64 (IntKind.wrap IntKind.u64 (bw BinOp.and IntKind.u64 (shrI IntKind.u64 a 1) 6148914691236517205 + bw BinOp.and IntKind.u64 a 6148914691236517205)) 3689348814741910323))) 1085102592571150095 + shrI IntKind.u64 (bw BinOp.and IntKind.u64 (IntKind.wrap IntKind.u64 (shrI IntKind.u64 (IntKind.wrap IntKind.u64 (bw BinOp.and IntKind.u64 (shrI IntKind.u64 (IntKind.wrap IntKind.u64 (bw BinOp.and IntKind.u64 (shrI IntKind.u64 a 1) 6148914691236517205 + bw BinOp.and IntKind.u64 a 6148914691236517205)) 2) 3689348814741910323 + bw BinOp.and IntKind.u64 (IntKind.wrap IntKind.u64 (bw BinOp.and IntKind.u64 (shrI IntKind.u64 a 1) 6148914691236517205 + bw BinOp.and IntKind.u64 a 6148914691236517205)) 3689348814741910323)) 4 + IntKind.wrap IntKind.u64 (bw BinOp.and IntKind.u64 (shrI IntKind.u64 (IntKind.wrap IntKind.u64 (bw BinOp.and IntKind.u64 (shrI IntKind.u64 a 1) 6148914691236517205 + bw BinOp.and IntKind.u64 a 6148914691236517205)) 2) 3689348814741910323 + bw BinOp.and IntKind.u64 (IntKind.wrap IntKind.u64 (bw BinOp.and IntKind.u64 (shrI IntKind.u64 a 1) 6148914691236517205 + bw BinOp.and IntKind.u64 a 6148914691236517205)) 3689348814741910323))) 1085102592571150095) 8) + shrI IntKind.u64 (IntKind.wrap IntKind.u64 (bw BinOp.and IntKind.u64 (IntKind.wrap IntKind.u64 (shrI IntKind.u64 (IntKind.wrap IntKind.u64 (bw BinOp.and IntKind.u64 (shrI IntKind.u64 (IntKind.wrap IntKind.u64 (bw BinOp.and IntKind.u64 (shrI IntKind.u64 a 1) 6148914691236517205 + bw BinOp.and IntKind.u64 a 6148914691236517205)) 2) 3689348814741910323 + bw BinOp.and IntKind.u64 (IntKind.wrap IntKind.u64 (bw BinOp.and IntKind.u64 (shrI IntKind.u64 a 1) 6148914691236517205 + bw BinOp.and IntKind.u64 a 6148914691236517205)) 3689348814741910323)) 4 + IntKind.wrap IntKind.u64 (bw BinOp.and IntKind.u64 (shrI IntKind.u64 (IntKind.wrap IntKind.u64 (bw BinOp.and IntKind.u64 (shrI IntKind.u64 a 1) 6148914691236517205 + bw BinOp.and IntKind.u64 a 6148914691236517205)) 2) 3689348814741910323 + bw BinOp.and IntKind.u64 (IntKind.wrap IntKind.u64 (bw BinOp.and IntKind.u64 (shrI IntKind.u64 a 1) 6148914691236517205 + bw BinOp.and IntKind.u64 a 6148914691236517205)) 3689348814741910323))) 1085102592571150095 + shrI IntKind.u64 (bw BinOp.and IntKind.u64 (IntKind.wrap IntKind.u64 (shrI IntKind.u64 (IntKind.wrap IntKind.u64 (bw BinOp.and IntKind.u64 (shrI IntKind.u64 (IntKind.wrap IntKind.u64 (bw BinOp.and IntKind.u64 (shrI IntKind.u64 a 1) 6148914691236517205 + bw BinOp.and IntKind.u64 a 6148914691236517205)) 2) 3689348814741910323 + bw BinOp.and IntKind.u64 (IntKind.wrap IntKind.u64 (bw BinOp.and IntKind.u64 (shrI IntKind.u64 a 1) 6148914691236517205 + bw BinOp.and IntKind.u64 a 6148914691236517205)) 3689348814741910323)) 4 + IntKind.wrap IntKind.u64 (bw BinOp.and IntKind.u64 (shrI IntKind.u64 (IntKind.wrap IntKind.u64 (bw BinOp.and IntKind.u64 (shrI IntKind.u64 a 1) 6148914691236517205 + bw BinOp.and IntKind.u64 a 6148914691236517205)) 2) 3689348814741910323 + bw BinOp.and IntKind.u64 (IntKind.wrap IntKind.u64 (bw BinOp.and IntKind.u64 (shrI IntKind.u64 a 1) 6148914691236517205 + bw BinOp.and IntKind.u64 a 6148914691236517205)) 3689348814741910323))) 1085102592571150095) 8)) 16) + shrI IntKind.u64 (IntKind.wrap IntKind.u64 (IntKind.wrap IntKind.u64 (bw BinOp.and IntKind.u64 (IntKind.wrap IntKind.u64 (shrI IntKind.u64 (IntKind.wrap IntKind.u64 (bw BinOp.and IntKind.u64 (shrI IntKind.u64 (IntKind.wrap IntKind.u64 (bw BinOp.and IntKind.u64 (shrI IntKind.u64 a 1) 6148914691236517205 + bw BinOp.and IntKind.u64 a 6148914691236517205)) 2) 3689348814741910323 + bw BinOp.and IntKind.u64 (IntKind.wrap IntKind.u64 (bw BinOp.and IntKind.u64 (shrI IntKind.u64 a 1) 6148914691236517205 + bw BinOp.and IntKind.u64 a 6148914691236517205)) 3689348814741910323)) 4 + IntKind.wrap IntKind.u64 (bw BinOp.and IntKind.u64 (shrI IntKind.u64 (IntKind.wrap IntKind.u64 (bw BinOp.and IntKind.u64 (shrI IntKind.u64 a 1) 6148914691236517205 + bw BinOp.and IntKind.u64 a 6148914691236517205)) 2) 3689348814741910323 + bw BinOp.and IntKind.u64 (IntKind.wrap IntKind.u64 (bw BinOp.and IntKind.u64 (shrI IntKind.u64 a 1) 6148914691236517205 + bw BinOp.and IntKind.u64 a 6148914691236517205)) 3689348814741910323))) 1085102592571150095 + shrI IntKind.u64 (bw BinOp.and IntKind.u64 (IntKind.wrap IntKind.u64 (shrI IntKind.u64 (IntKind.wrap IntKind.u64 (bw BinOp.and IntKind.u64 (shrI IntKind.u64 (IntKind.wrap IntKind.u64 (bw BinOp.and IntKind.u64 (shrI IntKind.u64 a 1) 6148914691236517205 + bw BinOp.and IntKind.u64 a 6148914691236517205)) 2) 3689348814741910323 + bw BinOp.and IntKind.u64 (IntKind.wrap IntKind.u64 (bw BinOp.and IntKind.u64 (shrI IntKind.u64 a 1) 6148914691236517205 + bw BinOp.and IntKind.u64 a 6148914691236517205)) 3689348814741910323)) 4 + IntKind.wrap IntKind.u64 (bw BinOp.and IntKind.u64 (shrI IntKind.u64 (IntKind.wrap IntKind.u64 (bw BinOp.and IntKind.u64 (shrI IntKind.u64 a 1) 6148914691236517205 + bw BinOp.and IntKind.u64 a 6148914691236517205)) 2) 3689348814741910323 + bw BinOp.and IntKind.u64 (IntKind.wrap IntKind.u64 (bw BinOp.and IntKind.u64 (shrI IntKind.u64 a 1) 6148914691236517205 + bw BinOp.and IntKind.u64 a 6148914691236517205)) 3689348814741910323))) 1085102592571150095) 8) + shrI IntKind.u64 (IntKind.wrap IntKind.u64 (bw BinOp.and IntKind.u64 (IntKind.wrap IntKind.u64 (shrI IntKind.u64 (IntKind.wrap IntKind.u64 (bw BinOp.and IntKind.u64 (shrI IntKind.u64 (IntKind.wrap IntKind.u64 (bw BinOp.and IntKind.u64 (shrI IntKind.u64 a 1) 6148914691236517205 + bw BinOp.and IntKind.u64 a 6148914691236517205)) 2) 3689348814741910323 + bw BinOp.and IntKind.u64 (IntKind.wrap IntKind.u64 (bw BinOp.and IntKind.u64 (shrI IntKind.u64 a 1) 6148914691236517205 + bw BinOp.and IntKind.u64 a 6148914691236517205)) 3689348814741910323)) 4 + IntKind.wrap IntKind.u64 (bw BinOp.and IntKind.u64 (shrI IntKind.u64 (IntKind.wrap IntKind.u64 (bw BinOp.and IntKind.u64 (shrI IntKind.u64 a 1) 6148914691236517205 + bw BinOp.and IntKind.u64 a 6148914691236517205)) 2) 3689348814741910323 + bw BinOp.and IntKind.u64 (IntKind.wrap IntKind.u64 (bw BinOp.and IntKind.u64 (shrI IntKind.u64 a 1) 6148914691236517205 + bw BinOp.and IntKind.u64 a 6148914691236517205)) 3689348814741910323))) 1085102592571150095 + shrI IntKind.u64 (bw BinOp.and IntKind.u64 (IntKind.wrap IntKind.u64 (shrI IntKind.u64 (IntKind.wrap IntKind.u64 (bw BinOp.and IntKind.u64 (shrI IntKind.u64 (IntKind.wrap IntKind.u64 (bw BinOp.and IntKind.u64 (shrI IntKind.u64 a 1) 6148914691236517205 + bw BinOp.and IntKind.u64 a 6148914691236517205)) 2) 3689348814741910323 + bw BinOp.and IntKind.u64 (IntKind.wrap IntKind.u64 (bw BinOp.and IntKind.u64 (shrI IntKind.u64 a 1) 6148914691236517205 + bw BinOp.and IntKind.u64 a 6148914691236517205)) 3689348814741910323)) 4 + IntKind.wrap IntKind.u64 (bw BinOp.and IntKind.u64 (shrI IntKind.u64 (IntKind.wrap IntKind.u64 (bw BinOp.and IntKind.u64 (shrI IntKind.u64 a 1) 6148914691236517205 + bw BinOp.and IntKind.u64 a 6148914691236517205)) 2) 3689348814741910323 + bw BinOp.and IntKind.u64 (IntKind.wrap IntKind.u64 (bw BinOp.and IntKind.u64 (shrI IntKind.u64 a 1) 6148914691236517205 + bw BinOp.and IntKind.u64 a 6148914691236517205)) 3689348814741910323))) 1085102592571150095) 8)) 16)) 32))) 127, ())
/-- coterie/seats.Count -/
def g_seats_Count : Int × Unit → Option (Int × Unit)
  | (a, _) => some (cntW a, ())
/-- coterie/seats.bit -/
def g_seats_bit : Int × Unit → Option (Int × Unit)
  | (a, _) => bif decide (a < 0) then some (0, ()) else bif decide (64 ≤ a) then some (0, ()) else some (shlI IntKind.u64 1 (IntKind.wrap IntKind.u64 a), ())
/-- coterie/plan.nodeKey -/
def g_plan_nodeKey : Tree × Int × Unit → Option (Key × Unit)
  | (a, b, _) => bif decide (0 ≤ slot b) then bif decide (0 ≤ slot b) && decide (slot b < 64) then some ((leafAt (Arr.get a.Roster (slot b)) a.Epoch).fst, ()) else none else bif decide (0 ≤ b) && decide (b < 21) then some (Arr.get a.Keys b, ()) else none
def g_plan_leavers_r1 : (Unit × List Seat × List Int × Int × Int × Unit) × (Vector Entry 64 × Unit) × Unit → Option (((Unit × List Seat × List Int × Int × Int × Unit) × (Vector Entry 64 × Unit) × Unit) ⊕ ((List Seat × Unit) × Unit × Unit))
  | ((_, a, b, c, d, _), (e, _), _) => bif decide (d < c) then bif decide (0 ≤ d) && decide (d < (↑(List.length b) : Int)) then bif decide ((List.length a + 1) * 16 ≤ 140737488355328) then some (Sum.inl (((), List.append a [Seat.mk (lat b d) (findR e (lat b d))], b, c, IntKind.wrap IntKind.i64 (d + 1), ()), (e, ()), ())) else none else none else some (Sum.inr ((a, ()), (), ()))
/-- coterie/plan.leavers -/
def g_plan_leavers : Vector Entry 64 × List Int × Unit → Option (List Seat × Unit)
  | (a, b, _) => Option.bind (lfp g_plan_leavers_r1 (((), [], b, (↑(List.length b) : Int), 0, ()), (a, ()), ())) fun z => some (z.fst.fst, ())
def g_roster_names_r1 : (Unit × Unit × Int × Int × Unit) × (Vector Entry 64 × Int × Int × Unit) × Unit → Option (((Unit × Unit × Int × Int × Unit) × (Vector Entry 64 × Int × Int × Unit) × Unit) ⊕ ((Int × Unit) × (Vector Entry 64 × Int × Int × Unit) × Unit ⊕ Unit × (Vector Entry 64 × Int × Int × Unit) × Unit))
  | ((_, _, a, b, _), (c, d, e, _), _) => bif decide (b < a) then bif decide (0 ≤ b) && decide (b < 64) then bif decide (d ≤ (Arr.get c b).Base) then bif decide ((Arr.get c b).Base < IntKind.wrap IntKind.i64 (d + e)) then some (Sum.inr (Sum.inl ((b, ()), (c, d, e, ()), ()))) else some (Sum.inl (((), (), a, IntKind.wrap IntKind.i64 (b + 1), ()), (c, d, e, ()), ())) else some (Sum.inl (((), (), a, IntKind.wrap IntKind.i64 (b + 1), ()), (c, d, e, ()), ())) else none else some (Sum.inr (Sum.inr ((), (c, d, e, ()), ())))
/-- coterie/roster.names -/
def g_roster_names : Vector Entry 64 × Int × Int × Unit → Option (Bool × Unit)
  | (a, b, c, _) => bif decide (c = 0) then some (true, ()) else bif decide (b < 1) then some (false, ()) else bif decide (IntKind.wrap IntKind.i64 (32768 - c) < b) then some (false, ()) else Option.bind (lfp g_roster_names_r1 (((), (), 64, 0, ()), (a, b, c, ()), ())) fun z => Sum.elim (fun x => some (!decide (0 ≤ x.fst.fst), ())) (fun _ => some (true, ())) z
def g_roster_Fits_r1 : (Bool × Int × Unit × Unit × List Int × Int × Int × Unit) × (Vector Entry 64 × Batch × Unit × Unit) × List (Int × Int) × Unit → Option (((Bool × Int × Unit × Unit × List Int × Int × Int × Unit) × (Vector Entry 64 × Batch × Unit × Unit) × List (Int × Int) × Unit) ⊕ ((Int × Unit) × (Vector Entry 64 × Batch × Unit × Unit) × List (Int × Int) × Unit ⊕ Unit × (Vector Entry 64 × Batch × Unit × Unit) × List (Int × Int) × Unit))
  | ((a, b, _, _, c, d, e, _), (f, g, _, _), h, _) => bif decide (e < d) then bif decide (0 ≤ e) && decide (e < (↑(List.length c) : Int)) then bif decide (lat c e < 0) then some (Sum.inr (Sum.inl ((14, ()), (f, g, (), ()), mput h (lat c e) (IntKind.wrap IntKind.i64 (Option.getD (mget h (lat c e)) 0 + 1)), ()))) else bif decide (256 ≤ lat c e) then some (Sum.inr (Sum.inl ((14, ()), (f, g, (), ()), mput h (lat c e) (IntKind.wrap IntKind.i64 (Option.getD (mget h (lat c e)) 0 + 1)), ()))) else bif decide (1 < Option.getD (mget (mput h (lat c e) (IntKind.wrap IntKind.i64 (Option.getD (mget h (lat c e)) 0 + 1))) (lat c e)) 0) then some (Sum.inr (Sum.inl ((15, ()), (f, g, (), ()), mput h (lat c e) (IntKind.wrap IntKind.i64 (Option.getD (mget h (lat c e)) 0 + 1)), ()))) else bif !decide (decide (0 ≤ findR f (lat c e)) = a) then some (Sum.inr (Sum.inl ((b, ()), (f, g, (), ()), mput h (lat c e) (IntKind.wrap IntKind.i64 (Option.getD (mget h (lat c e)) 0 + 1)), ()))) else some (Sum.inl ((a, b, (), (), c, d, IntKind.wrap IntKind.i64 (e + 1), ()), (f, g, (), ()), mput h (lat c e) (IntKind.wrap IntKind.i64 (Option.getD (mget h (lat c e)) 0 + 1)), ())) else none else some (Sum.inr (Sum.inr ((), (f, g, (), ()), h, ())))
/-- coterie/roster.Fits -/
def g_roster_Fits : Vector Entry 64 × Batch × Unit → Option (Int × Unit)
  | (a, b, _) => bif !decide (chkR a = 0) then some (chkR a, ()) else Option.bind (lfp g_roster_Fits_r1 ((true, 16, (), (), b.Leaves, (↑(List.length b.Leaves) : Int), 0, ()), (a, b, (), ()), [], ())) fun z => Sum.elim (fun x => bif !decide (x.fst.fst = 0) then some (x.fst.fst, ()) else Option.bind (lfp g_roster_Fits_r1 ((false, 17, (), (), x.snd.fst.snd.fst.Joins, (↑(List.length x.snd.fst.snd.fst.Joins) : Int), 0, ()), (x.snd.fst.fst, x.snd.fst.snd.fst, (), ()), x.snd.snd.fst, ())) fun z => Sum.elim (fun x => bif !decide (x.fst.fst = 0) then some (x.fst.fst, ()) else bif decide (IntKind.wrap IntKind.i64 (IntKind.wrap IntKind.i64 (64 - cntW (N.taken x.snd.fst.fst)) + (↑(List.length x.snd.fst.snd.fst.Leaves) : Int)) < (↑(List.length x.snd.fst.snd.fst.Joins) : Int)) then some (18, ()) else some (0, ())) (fun z => bif decide (IntKind.wrap IntKind.i64 (IntKind.wrap IntKind.i64 (64 - cntW (N.taken z.snd.fst.fst)) + (↑(List.length z.snd.fst.snd.fst.Leaves) : Int)) < (↑(List.length z.snd.fst.snd.fst.Joins) : Int)) then some (18, ()) else some (0, ())) z) (fun z => Option.bind (lfp g_roster_Fits_r1 ((false, 17, (), (), z.snd.fst.snd.fst.Joins, (↑(List.length z.snd.fst.snd.fst.Joins) : Int), 0, ()), (z.snd.fst.fst, z.snd.fst.snd.fst, (), ()), z.snd.snd.fst, ())) fun z => Sum.elim (fun x => bif !decide (x.fst.fst = 0) then some (x.fst.fst, ()) else bif decide (IntKind.wrap IntKind.i64 (IntKind.wrap IntKind.i64 (64 - cntW (N.taken x.snd.fst.fst)) + (↑(List.length x.snd.fst.snd.fst.Leaves) : Int)) < (↑(List.length x.snd.fst.snd.fst.Joins) : Int)) then some (18, ()) else some (0, ())) (fun z => bif decide (IntKind.wrap IntKind.i64 (IntKind.wrap IntKind.i64 (64 - cntW (N.taken z.snd.fst.fst)) + (↑(List.length z.snd.fst.snd.fst.Leaves) : Int)) < (↑(List.length z.snd.fst.snd.fst.Joins) : Int)) then some (18, ()) else some (0, ())) z) z
end Go.Co.N
end
end

section
set_option maxRecDepth 100000
noncomputable section
namespace Go.Co.N
open Go Go.Co
def g_roster_Move_r1 : (Int × Int × Unit × Unit × Unit × List Seat × Unit × List Int × Int × Int × Unit) × (Vector Entry 64 × Batch × Vector Entry 64 × Unit) × Unit → Option (((Int × Int × Unit × Unit × Unit × List Seat × Unit × List Int × Int × Int × Unit) × (Vector Entry 64 × Batch × Vector Entry 64 × Unit) × Unit) ⊕ ((Int × Int × Unit × Unit × Unit × List Seat × Unit × Unit) × (Vector Entry 64 × Batch × Vector Entry 64 × Unit) × Unit))
  | ((a, b, _, _, _, c, _, d, e, f, _), (g, h, i, _), _) => bif decide (f < e) then bif decide (0 ≤ f) && decide (f < (↑(List.length d) : Int)) then bif decide (0 ≤ findR g (lat d f)) && decide (findR g (lat d f) < 64) then bif decide ((List.length c + 1) * 16 ≤ 140737488355328) then some (Sum.inl ((a, b, (), (), (), List.append c [Seat.mk (lat d f) (findR g (lat d f))], (), d, e, IntKind.wrap IntKind.i64 (f + 1), ()), (Arr.put g (findR g (lat d f)) (Entry.mk 0 0 0), h, i, ()), ())) else none else none else none else some (Sum.inr ((a, b, (), (), (), c, (), ()), (g, h, i, ()), ()))
def g_roster_Move_r2 : (Int × Int × Unit × Unit × Unit × List Seat × List Seat × List Int × Int × Int × Unit) × (Vector Entry 64 × Batch × Vector Entry 64 × Unit) × Unit → Option (((Int × Int × Unit × Unit × Unit × List Seat × List Seat × List Int × Int × Int × Unit) × (Vector Entry 64 × Batch × Vector Entry 64 × Unit) × Unit) ⊕ ((Unit × Unit × List Seat × List Seat × Unit) × (Vector Entry 64 × Vector Entry 64 × Unit) × Unit))
  | ((a, b, _, _, _, c, d, e, f, g, _), (h, i, j, _), _) => bif decide (g < f) then bif decide (0 ≤ g) && decide (g < (↑(List.length e) : Int)) then bif decide (0 ≤ g) && decide (g < (↑(List.length i.Joins) : Int)) then bif decide (0 ≤ lat e g) && decide (lat e g < 64) then bif decide (0 ≤ g) && decide (g < (↑(List.length i.Joins) : Int)) then bif decide ((List.length d + 1) * 16 ≤ 140737488355328) then some (Sum.inl ((a, b, (), (), (), c, List.append d [Seat.mk (lat i.Joins g) (lat e g)], e, f, IntKind.wrap IntKind.i64 (g + 1), ()), (Arr.put h (lat e g) (Entry.mk (lat i.Joins g) (IntKind.wrap IntKind.i64 (b + g)) a), i, j, ()), ())) else none else none else none else none else none else some (Sum.inr (((), (), c, d, ()), (h, j, ()), ()))
/-- coterie/roster.Move -/
def g_roster_Move : Vector Entry 64 × Batch × Int × Int × Unit → Option (Vector Entry 64 × List Seat × List Seat × Int × Unit)
  | (a, b, c, d, _) => bif !decide (fits a b = 0) then bif !decide (fits a b = 0) then some (Vector.replicate 64 (St.zero St.entry), [], [], fits a b, ()) else Option.bind (lfp g_roster_Move_r1 ((c, d, (), (), (), [], (), b.Leaves, (↑(List.length b.Leaves) : Int), 0, ()), (a, b, Vector.replicate 64 (St.zero St.entry), ()), ())) fun z => Option.bind (lfp g_roster_Move_r2 ((z.fst.fst, z.fst.snd.fst, (), (), (), z.fst.snd.snd.snd.snd.snd.fst, [], (takeW (N.taken z.snd.fst.fst) (↑(List.length z.snd.fst.snd.fst.Joins) : Int)).fst, (↑(List.length (takeW (N.taken z.snd.fst.fst) (↑(List.length z.snd.fst.snd.fst.Joins) : Int)).fst) : Int), 0, ()), (z.snd.fst.fst, z.snd.fst.snd.fst, z.snd.fst.snd.snd.fst, ()), ())) fun z => some (z.snd.fst.fst, z.fst.snd.snd.fst, z.fst.snd.snd.snd.fst, 0, ()) else bif decide (c < 1) then some (Vector.replicate 64 (St.zero St.entry), [], [], 19, ()) else bif decide (200 < c) then some (Vector.replicate 64 (St.zero St.entry), [], [], 19, ()) else Option.bind (bif decide (0 ≤ (↑(List.length b.Joins) : Int)) && decide ((↑(List.length b.Joins) : Int) ≤ 64) then some (namesFree a d (↑(List.length b.Joins) : Int), ()) else none) fun y => bif !y.fst then some (Vector.replicate 64 (St.zero St.entry), [], [], 3, ()) else bif !decide (fits a b = 0) then some (Vector.replicate 64 (St.zero St.entry), [], [], fits a b, ()) else Option.bind (lfp g_roster_Move_r1 ((c, d, (), (), (), [], (), b.Leaves, (↑(List.length b.Leaves) : Int), 0, ()), (a, b, Vector.replicate 64 (St.zero St.entry), ()), ())) fun z => Option.bind (lfp g_roster_Move_r2 ((z.fst.fst, z.fst.snd.fst, (), (), (), z.fst.snd.snd.snd.snd.snd.fst, [], (takeW (N.taken z.snd.fst.fst) (↑(List.length z.snd.fst.snd.fst.Joins) : Int)).fst, (↑(List.length (takeW (N.taken z.snd.fst.fst) (↑(List.length z.snd.fst.snd.fst.Joins) : Int)).fst) : Int), 0, ()), (z.snd.fst.fst, z.snd.fst.snd.fst, z.snd.fst.snd.snd.fst, ()), ())) fun z => some (z.snd.fst.fst, z.fst.snd.snd.fst, z.fst.snd.snd.snd.fst, 0, ())
/-- coterie/plan.step -/
def g_plan_step : Tree × Batch × Unit → Option (Tree × Rekey × Int × Unit)
  | (a, b, _) => bif !decide (chkT a = 0) then some (Tree.mk 0 0 (Vector.replicate 21 (St.zero St.key)) (Vector.replicate 64 (St.zero St.entry)), Rekey.mk 0 [] [] [], chkT a, ()) else bif decide (a.Epoch = 200) then some (Tree.mk 0 0 (Vector.replicate 21 (St.zero St.key)) (Vector.replicate 64 (St.zero St.entry)), Rekey.mk 0 [] [] [], 19, ()) else bif !decide (fits a.Roster b = 0) then some (Tree.mk 0 0 (Vector.replicate 21 (St.zero St.key)) (Vector.replicate 64 (St.zero St.entry)), Rekey.mk 0 [] [] [], fits a.Roster b, ()) else Option.bind (bif decide (List.length b.Leaves ≤ 64) then some (goneOf a.Roster b.Leaves, ()) else none) fun y => bif decide (IntKind.wrap IntKind.i64 (IntKind.wrap IntKind.i64 (32768 - cntTo (replaced y.fst) 32) - (↑(List.length b.Joins) : Int)) < a.Fresh) then some (Tree.mk 0 0 (Vector.replicate 21 (St.zero St.key)) (Vector.replicate 64 (St.zero St.entry)), Rekey.mk 0 [] [] [], 3, ()) else bif !decide ((turn a.Keys (replaced y.fst) a.Fresh).snd.snd = 0) then some (Tree.mk 0 0 (Vector.replicate 21 (St.zero St.key)) (Vector.replicate 64 (St.zero St.entry)), Rekey.mk 0 [] [] [], (turn a.Keys (replaced y.fst) a.Fresh).snd.snd, ()) else bif !decide ((N.move a.Roster b (IntKind.wrap IntKind.i64 (a.Epoch + 1)) (turn a.Keys (replaced y.fst) a.Fresh).snd.fst).e = 0) then some (Tree.mk 0 0 (Vector.replicate 21 (St.zero St.key)) (Vector.replicate 64 (St.zero St.entry)), Rekey.mk 0 [] [] [], (N.move a.Roster b (IntKind.wrap IntKind.i64 (a.Epoch + 1)) (turn a.Keys (replaced y.fst) a.Fresh).snd.fst).e, ()) else some (Tree.mk (IntKind.wrap IntKind.i64 (a.Epoch + 1)) (IntKind.wrap IntKind.i64 ((turn a.Keys (replaced y.fst) a.Fresh).snd.fst + (↑(List.length (N.move a.Roster b (IntKind.wrap IntKind.i64 (a.Epoch + 1)) (turn a.Keys (replaced y.fst) a.Fresh).snd.fst).joined) : Int))) (turn a.Keys (replaced y.fst) a.Fresh).fst (N.move a.Roster b (IntKind.wrap IntKind.i64 (a.Epoch + 1)) (turn a.Keys (replaced y.fst) a.Fresh).snd.fst).r, Rekey.mk (IntKind.wrap IntKind.i64 (a.Epoch + 1)) (N.move a.Roster b (IntKind.wrap IntKind.i64 (a.Epoch + 1)) (turn a.Keys (replaced y.fst) a.Fresh).snd.fst).left (N.move a.Roster b (IntKind.wrap IntKind.i64 (a.Epoch + 1)) (turn a.Keys (replaced y.fst) a.Fresh).snd.fst).joined [], 0, ())
def g_plan_items_r2 : (Unit × Unit × Unit × Int × Int × Int × Int × Unit) × (Tree × Rekey × List Co.Item × Unit) × Unit → Option (((Unit × Unit × Unit × Int × Int × Int × Int × Unit) × (Tree × Rekey × List Co.Item × Unit) × Unit) ⊕ ((Unit × Unit × Unit × Int × Int × Int × Unit) × (Tree × Rekey × List Co.Item × Unit) × Unit))
  | ((_, _, _, a, b, c, d, _), (e, f, g, _), _) => bif decide (bw BinOp.and IntKind.u32 (shrI IntKind.u32 b (IntKind.wrap IntKind.u64 c)) 1 = 1) then bif decide (d < 4) then bif !decide (bw BinOp.and IntKind.u64 (mask (child c d)) a = 0) then Option.bind (bif betw (child c d) 0 84 then some (nodeK e (child c d), ()) else none) fun y => Option.bind (bif betw c 0 84 then some (nodeK e c, ()) else none) fun y_1 => bif decide ((sealK y.fst y_1.fst).snd = 0) then bif decide ((List.length g + 1) * 48 ≤ 140737488355328) then some (Sum.inl (((), (), (), a, b, c, IntKind.wrap IntKind.i64 (d + 1), ()), (e, f, List.append g [Item.mk c (child c d) (sealK y.fst y_1.fst).fst], ()), ())) else none else some (Sum.inl (((), (), (), a, b, c, IntKind.wrap IntKind.i64 (d + 1), ()), (e, f, g, ()), ())) else some (Sum.inl (((), (), (), a, b, c, IntKind.wrap IntKind.i64 (d + 1), ()), (e, f, g, ()), ())) else some (Sum.inr (((), (), (), a, b, c, ()), (e, f, g, ()), ())) else some (Sum.inr (((), (), (), a, b, c, ()), (e, f, g, ()), ()))
def g_plan_items_r1 : (Unit × Unit × Unit × Int × Int × Int × Unit) × (Tree × Rekey × List Co.Item × Unit) × Unit → Option (((Unit × Unit × Unit × Int × Int × Int × Unit) × (Tree × Rekey × List Co.Item × Unit) × Unit) ⊕ ((Unit × Unit × Unit × Int × Unit) × (Tree × Rekey × List Co.Item × Unit) × Unit))
  | ((_, _, _, a, b, c, _), (d, e, f, _), _) => bif decide (0 ≤ c) then Option.bind (lfp g_plan_items_r2 (((), (), (), a, b, c, 0, ()), (d, e, f, ()), ())) fun z => some (Sum.inl (((), (), (), z.fst.snd.snd.snd.fst, z.fst.snd.snd.snd.snd.fst, IntKind.wrap IntKind.i64 (z.fst.snd.snd.snd.snd.snd.fst - 1), ()), (z.snd.fst.fst, z.snd.fst.snd.fst, z.snd.fst.snd.snd.fst, ()), ())) else some (Sum.inr (((), (), (), b, ()), (d, e, f, ()), ()))
def g_plan_items_r4 : (Unit × Unit × Int × Unit × List Seat × Int × Int × Vector Int 3 × Int × Unit) × (Tree × List Co.Item × Seat × Unit) × Unit → Option (((Unit × Unit × Int × Unit × List Seat × Int × Int × Vector Int 3 × Int × Unit) × (Tree × List Co.Item × Seat × Unit) × Unit) ⊕ ((Unit × Unit × Int × List Seat × Int × Int × Unit) × (Tree × List Co.Item × Unit) × Unit))
  | ((_, _, a, _, b, c, d, e, f, _), (g, h, i, _), _) => bif decide (f < 3) then bif decide (0 ≤ f) && decide (f < 3) then bif decide (bw BinOp.and IntKind.u32 (shrI IntKind.u32 a (IntKind.wrap IntKind.u64 (Arr.get e f))) 1 = 0) then Option.bind (bif betw (leaf i.Slot) 0 84 then some (nodeK g (leaf i.Slot), ()) else none) fun y => Option.bind (bif betw (Arr.get e f) 0 84 then some (nodeK g (Arr.get e f), ()) else none) fun y_1 => bif decide ((sealK y.fst y_1.fst).snd = 0) then bif decide ((List.length h + 1) * 48 ≤ 140737488355328) then some (Sum.inl (((), (), a, (), b, c, d, e, IntKind.wrap IntKind.i64 (f + 1), ()), (g, List.append h [Item.mk (Arr.get e f) (leaf i.Slot) (sealK y.fst y_1.fst).fst], i, ()), ())) else none else some (Sum.inl (((), (), a, (), b, c, d, e, IntKind.wrap IntKind.i64 (f + 1), ()), (g, h, i, ()), ())) else some (Sum.inl (((), (), a, (), b, c, d, e, IntKind.wrap IntKind.i64 (f + 1), ()), (g, h, i, ()), ())) else none else some (Sum.inr (((), (), a, b, c, d, ()), (g, h, ()), ()))
def g_plan_items_r3 : (Unit × Unit × Int × List Seat × Int × Int × Unit) × (Tree × List Co.Item × Unit) × Unit → Option (((Unit × Unit × Int × List Seat × Int × Int × Unit) × (Tree × List Co.Item × Unit) × Unit) ⊕ ((Unit × Unit) × (List Co.Item × Unit) × Unit))
  | ((_, _, a, b, c, d, _), (e, f, _), _) => bif decide (d < c) then bif decide (0 ≤ d) && decide (d < (↑(List.length b) : Int)) then Option.bind (lfp g_plan_items_r4 (((), (), a, (), b, c, d, bif decide (0 ≤ leaf (lat b d).Slot) then pathN (lat b d).Slot else zero3, 0, ()), (e, f, lat b d, ()), ())) fun z => some (Sum.inl (((), (), z.fst.snd.snd.fst, z.fst.snd.snd.snd.fst, z.fst.snd.snd.snd.snd.fst, IntKind.wrap IntKind.i64 (z.fst.snd.snd.snd.snd.snd.fst + 1), ()), (z.snd.fst.fst, z.snd.fst.snd.fst, ()), ())) else none else some (Sum.inr (((), ()), (f, ()), ()))
/-- coterie/plan.items -/
def g_plan_items : Tree × Rekey × Unit → Option (List Co.Item × Unit)
  | (a, b, _) => Option.bind (lfp g_plan_items_r1 (((), (), (), N.taken a.Roster, replaced b.Leaves, 20, ()), (a, b, [], ()), ())) fun z => Option.bind (lfp g_plan_items_r3 (((), (), z.fst.snd.snd.snd.fst, z.snd.fst.snd.fst.Joins, (↑(List.length z.snd.fst.snd.fst.Joins) : Int), 0, ()), (z.snd.fst.fst, z.snd.fst.snd.snd.fst, ()), ())) fun z => some (z.snd.fst.fst, ())
/-- coterie/plan.Next -/
def g_plan_Next : Tree × Batch × Unit → Option (Tree × Rekey × Int × Unit)
  | (a, b, _) => bif !decide ((nextT a b).e = 0) then some (Tree.mk 0 0 (Vector.replicate 21 (St.zero St.key)) (Vector.replicate 64 (St.zero St.entry)), Rekey.mk 0 [] [] [], (nextT a b).e, ()) else Option.bind (bif calls (nextT a b).t (Rekey.mk (nextT a b).t.Epoch (nextT a b).left (nextT a b).joined []) then some (items (nextT a b).t (nextT a b).left (nextT a b).joined, ()) else none) fun y => some ((nextT a b).t, Rekey.mk (nextT a b).t.Epoch (nextT a b).left (nextT a b).joined y.fst, 0, ())
end Go.Co.N
end
end

section
namespace Go.Co.N
open Go Go.Co

/-! ### Rosters -/
structure GoodR (r : Roster) : Prop where
  one : ∀ s : Nat, s < 64 → ent r s = zeroE ∨ goodE (ent r s) = true
  who : ∀ s k : Nat, s < 64 → k < 64 → isOn r s = true → isOn r k = true → (ent r s).Who = (ent r k).Who → s = k
  base : ∀ s k : Nat, s < 64 → k < 64 → isOn r s = true → isOn r k = true → (ent r s).Base = (ent r k).Base → s = k
theorem goodR_iff {r : Roster} : goodRoster r = true ↔ GoodR r := by
  constructor
  · intro h
    refine ⟨fun s hs => ?_, fun s k hs hk h1 h2 => roster_who h hs hk h1 h2, fun s k hs hk h1 h2 => roster_base h hs hk h1 h2⟩
    by_cases hon : isOn r s = true
    · exact .inr (roster_on h hs hon).1
    · exact .inl (roster_off h hs hon)
  · intro h
    refine allN_iff.2 fun s hs => ?_
    unfold entOk
    rcases h.one s hs with h0 | h1
    · simp [h0]
    · rw [h1, Bool.or_eq_true]
      refine .inr ?_
      rw [Bool.true_and]
      refine allN_iff.2 fun k hk => ?_
      have hb : isOn r s = true := isOn_iff.2 (by have := (goodE_iff.1 h1).2.2.1; omega)
      by_cases hk0 : (ent r k).Base = 0
      · simp [hk0]
      · have hkon : isOn r k = true := isOn_iff.2 hk0
        have n1 : ¬ (ent r k).Who = (ent r s).Who := fun e => by have := h.who k s (by omega) hs hkon hb e; omega
        have n2 : ¬ (ent r k).Base = (ent r s).Base := fun e => by have := h.base k s (by omega) hs hkon hb e; omega
        simp [n1, n2]
theorem GoodR.leave {r : Roster} (h : GoodR r) {s : Nat} (hs : s < 64) : GoodR (Arr.put r (s : Int) zeroE) := by
  refine ⟨fun k hk => ?_, fun i k hi hk h1 h2 he => ?_, fun i k hi hk h1 h2 he => ?_⟩
  · rw [ent_put r hs]
    split
    · exact .inl rfl
    · exact h.one k hk
  all_goals
    rw [isOn_put r hs] at h1 h2
    rw [ent_put r hs, ent_put r hs] at he
    by_cases e1 : s = i
    · rw [if_pos e1] at h1; simp at h1
    by_cases e2 : s = k
    · rw [if_pos e2] at h2; simp at h2
    rw [if_neg e1] at h1 he
    rw [if_neg e2] at h2 he
  · exact h.who i k hi hk h1 h2 he
  · exact h.base i k hi hk h1 h2 he
theorem leave_all : ∀ (l : List Int) (r : Roster), canLeave r l → GoodR r →
    (leaveGo l r).2 = goneOf r l ∧ ∀ k : Nat, k < 64 → ent (leaveGo l r).1 k = if isOn r k = true ∧ (ent r k).Who ∈ l then zeroE else ent r k
  | [], r, _, _ => ⟨rfl, fun k hk => by simp [leaveGo]⟩
  | w :: l, r, hc, hg => by
    obtain ⟨s, hs, he, hon, hw, hn⟩ := canLeave_next hc
    obtain ⟨i1, i2⟩ := leave_all l _ hn (hg.leave hs)
    have hnd := List.nodup_cons.1 hc.2
    simp only [leaveGo, he]
    constructor
    · rw [i1]
      simp only [goneOf, List.map_cons, he]
      congr 1
      refine List.map_congr_left fun x hx => ?_
      rw [findR_put hs (fun e => hnd.1 (by rw [← hw, e]; exact hx)) (.inl rfl)]
    · intro k hk
      rw [i2 k hk, isOn_put r hs, ent_put r hs]
      by_cases e : s = k
      · subst e
        simp [hon, hw]
      · rw [if_neg e, if_neg e]
        by_cases hkon : isOn r k = true
        · have hne : (ent r k).Who ≠ w := fun h => e (hg.who s k hs hk hon hkon (by rw [hw, h]))
          simp [hkon, hne]
        · simp [hkon]
theorem join_all (since : Int) : ∀ (l : List Int) (base : Int) (r : Roster), l.length ≤ freeN r → 1 ≤ base →
    (∀ (i : Nat) (w : Int), l[i]? = some w → ∃ s : Nat, s < 64 ∧ isOn r s = false ∧ (joinGo since l base r).2[i]? = some ⟨w, s⟩ ∧ ent (joinGo since l base r).1 s = ⟨w, base + i, since⟩) ∧
    (∀ k : Nat, k < 64 → (∀ x ∈ (joinGo since l base r).2, x.Slot ≠ k) → ent (joinGo since l base r).1 k = ent r k) ∧
    (∀ x ∈ (joinGo since l base r).2, ∃ s : Nat, s < 64 ∧ x.Slot = s ∧ isOn r s = false) ∧
    ((joinGo since l base r).2.map (·.Slot)).Nodup
  | [], base, r, _, _ => ⟨fun i w h => by simp at h, fun k _ _ => rfl, fun x hx => by simp [joinGo] at hx, by simp [joinGo]⟩
  | w :: l, base, r, hf, hb => by
    obtain ⟨s, hs, he, hoff, _⟩ := lowFree_ok (r := r) (by simp only [List.length_cons] at hf; omega)
    have hf2 := freeN_join r hs ⟨w, base, since⟩
    obtain ⟨j1, j2, j3, j4⟩ := join_all since l (base + 1) (Arr.put r (s : Int) ⟨w, base, since⟩) (by simp only [List.length_cons] at hf; omega) (by omega)
    have hon' : isOn (Arr.put r (s : Int) ⟨w, base, since⟩) s = true := by
      rw [isOn_put r hs, if_pos rfl]
      have : ¬ base = 0 := by omega
      simp [this]
    have hoff' : ∀ k : Nat, isOn (Arr.put r (s : Int) ⟨w, base, since⟩) k = false → k ≠ s ∧ isOn r k = false := fun k hk => by
      have hne : k ≠ s := fun e => by rw [e, hon'] at hk; cases hk
      rw [isOn_put r hs, if_neg (fun e => hne e.symm)] at hk
      exact ⟨hne, hk⟩
    have hns : ∀ x ∈ (joinGo since l (base + 1) (Arr.put r (s : Int) ⟨w, base, since⟩)).2, x.Slot ≠ s := fun x hx hxs => by
      obtain ⟨k, _, hk, ho⟩ := j3 x hx
      have := (hoff' k ho).1
      rw [hk] at hxs; omega
    simp only [joinGo, he]
    refine ⟨fun i w' hi => ?_, fun k hk hno => ?_, fun x hx => ?_, ?_⟩
    · cases i with
      | zero =>
        simp only [List.getElem?_cons_zero, Option.some.injEq] at hi
        subst hi
        refine ⟨s, hs, hoff, rfl, ?_⟩
        rw [j2 s hs hns, ent_put r hs, if_pos rfl]
        simp
      | succ i =>
        simp only [List.getElem?_cons_succ] at hi
        obtain ⟨k, hk, ho, h1, h2⟩ := j1 i w' hi
        refine ⟨k, hk, (hoff' k ho).2, by simpa using h1, ?_⟩
        rw [h2, show base + 1 + (i : Int) = base + ((i + 1 : Nat) : Int) by omega]
    · have h1 := hno _ (List.mem_cons_self ..)
      rw [j2 k hk fun x hx => hno x (List.mem_cons_of_mem _ hx), ent_put r hs, if_neg (fun e => h1 (by rw [e]))]
    · rcases List.mem_cons.1 hx with rfl | hx
      · exact ⟨s, hs, rfl, hoff⟩
      · obtain ⟨k, hk, h1, h2⟩ := j3 x hx
        exact ⟨k, hk, h1, (hoff' k h2).2⟩
    · simp only [List.map_cons, List.nodup_cons]
      refine ⟨fun hm => ?_, j4⟩
      obtain ⟨x, hx, hxs⟩ := List.mem_map.1 hm
      exact hns x hx hxs

/-! ### Steps -/
section
variable {t : Tree} {b : Batch} (h : (nextT t b).e = 0)
include h
theorem nx_left : (nextT t b).left = goneOf t.Roster b.Leaves := by
  obtain ⟨hg, _, hfi, _, hm, he⟩ := nextT_ok h
  obtain ⟨h1, h2, _, _⟩ := fits_ok hfi
  rw [he]
  show (stepMove t b).left = _
  unfold stepMove
  rw [(move_joined hm).1, moveGo]
  exact (leave_all _ _ (canLeave_of h2) (goodR_iff.1 h1)).1
theorem nx_turn : (nextT t b).t.Keys = turned t.Keys (replaced (nextT t b).left) t.Fresh ∧ goodKeys t.Keys = true ∧ replaced (nextT t b).left < 2097152 ∧
    free t.Keys t.Fresh (cntTo (replaced (nextT t b).left) 21) = true ∧ (∀ v : Nat, v < 21 → inB (replaced (nextT t b).left) v = true ∨ stp t.Keys v < 255) := by
  obtain ⟨hg, _, hfi, ht, hm, he⟩ := nextT_ok h
  have hk : (nextT t b).t.Keys = (stepTurn t b).1 := by rw [he]
  rw [hk, nx_left h]
  obtain ⟨h1, h2, h3, h4, h5⟩ := turn_ok ht
  exact ⟨by unfold stepTurn; rw [h5], h1, h2, h3, h4⟩
theorem nx_epoch : (nextT t b).t.Epoch = t.Epoch + 1 ∧ 0 ≤ t.Epoch ∧ t.Epoch < 200 := by
  obtain ⟨hg, h1, _, _, _, he⟩ := nextT_ok h
  exact ⟨by rw [he], (goodTree_iff.1 hg).1, h1⟩
theorem nx_fresh : (nextT t b).t.Fresh = t.Fresh + cntTo (replaced (nextT t b).left) 21 + b.Joins.length := by
  obtain ⟨_, _, _, ht, _, he⟩ := nextT_ok h
  rw [nx_left h]
  have hf : (nextT t b).t.Fresh = (stepTurn t b).2.1 + b.Joins.length := by rw [he]
  rw [hf, stepTurn, turn_fresh ht]
theorem nx_room : (nextT t b).t.Fresh ≤ 32768 ∧ 22 ≤ t.Fresh ∧ 0 ≤ cntTo (replaced (nextT t b).left) 21 := by
  obtain ⟨hg, _, _, ht, hm, _⟩ := nextT_ok h
  obtain ⟨_, _, h22, hlt, _, _, _, _⟩ := goodTree_iff.1 hg
  have hc := cntTo_le (replaced (nextT t b).left) 21
  have hfr := (nx_turn h).2.2.2.1
  have hnf := (move_joined hm).2.2.2
  rw [stepTurn, turn_fresh ht] at hnf
  rw [← nx_left h] at hnf
  have hfe := nx_fresh h
  refine ⟨?_, h22, hc.1⟩
  rw [hfe]
  by_cases hj : b.Joins.length = 0
  · rcases free_cnt hfr with h0 | ⟨_, h0, _⟩ <;> omega
  · have hz : ¬ (b.Joins.length : Int) = 0 := by omega
    unfold namesFree at hnf
    simp only [hz, decide_false, Bool.false_or, Bool.and_eq_true, decide_eq_true_eq] at hnf
    omega
theorem nx_leaves : b.Leaves.Nodup ∧ ∀ w ∈ b.Leaves, ∃ s : Nat, s < 64 ∧ findR t.Roster w = s ∧ isOn t.Roster s = true ∧ (ent t.Roster s).Who = w := by
  obtain ⟨_, _, hfi, _, _, _⟩ := nextT_ok h
  obtain ⟨_, h2, _, _⟩ := fits_ok hfi
  obtain ⟨h3, h4⟩ := askL_0 h2
  refine ⟨h4, fun w hw => ?_⟩
  obtain ⟨s, hs, he, hon, hwho, _⟩ := findR_some ((h3 w hw).2.2.2.2 rfl)
  exact ⟨s, hs, he, hon, hwho⟩
theorem nx_joins : b.Joins.Nodup ∧ ∀ w ∈ b.Joins, 0 ≤ w ∧ w < 256 ∧ w ∉ b.Leaves ∧ ∀ s : Nat, s < 64 → isOn t.Roster s = true → (ent t.Roster s).Who ≠ w := by
  obtain ⟨_, _, hfi, _, _, _⟩ := nextT_ok h
  obtain ⟨_, _, h2, _⟩ := fits_ok hfi
  obtain ⟨h3, h4⟩ := askL_0 h2
  refine ⟨h4, fun w hw => ?_⟩
  obtain ⟨k1, k2, k3, k4⟩ := h3 w hw
  refine ⟨k1, k2, k3, (findR_none fun hge => ?_).2⟩
  have := k4.1 hge
  cases this
/-- The names that joiners get begin here. -/
theorem nx_moved : (∀ (i : Nat) (w : Int), b.Joins[i]? = some w → ∃ s : Nat, s < 64 ∧ (nextT t b).joined[i]? = some ⟨w, s⟩ ∧ ent (nextT t b).t.Roster s = ⟨w, t.Fresh + cntTo (replaced (nextT t b).left) 21 + i, t.Epoch + 1⟩ ∧ (isOn t.Roster s = true → (ent t.Roster s).Who ∈ b.Leaves)) ∧
    (∀ k : Nat, k < 64 → (∀ x ∈ (nextT t b).joined, x.Slot ≠ k) → ent (nextT t b).t.Roster k = if isOn t.Roster k = true ∧ (ent t.Roster k).Who ∈ b.Leaves then zeroE else ent t.Roster k) ∧
    ((nextT t b).joined.map (·.Slot)).Nodup := by
  obtain ⟨hg, _, hfi, ht, hm, he⟩ := nextT_ok h
  obtain ⟨h1, h2, _, _⟩ := fits_ok hfi
  obtain ⟨_, l2⟩ := leave_all _ _ (canLeave_of h2) (goodR_iff.1 h1)
  have hroom := move_room hfi
  have hr := nx_room h
  have hbase : (stepTurn t b).2.1 = t.Fresh + cntTo (replaced (nextT t b).left) 21 := by rw [nx_left h, stepTurn, turn_fresh ht]
  have hmv : stepMove t b = moveGo t.Roster b (t.Epoch + 1) (stepTurn t b).2.1 := (move_joined hm).1
  rw [hbase] at hmv
  have hj : (nextT t b).joined = (joinGo (t.Epoch + 1) b.Joins (t.Fresh + cntTo (replaced (nextT t b).left) 21) (leaveGo b.Leaves t.Roster).1).2 := by
    have : (nextT t b).joined = (stepMove t b).joined := by rw [he]
    rw [this, hmv]; rfl
  have hro : (nextT t b).t.Roster = (joinGo (t.Epoch + 1) b.Joins (t.Fresh + cntTo (replaced (nextT t b).left) 21) (leaveGo b.Leaves t.Roster).1).1 := by
    have : (nextT t b).t.Roster = (stepMove t b).r := by rw [he]
    rw [this, hmv]; rfl
  obtain ⟨j1, j2, j3, j4⟩ := join_all (t.Epoch + 1) b.Joins (t.Fresh + cntTo (replaced (nextT t b).left) 21) (leaveGo b.Leaves t.Roster).1 hroom.1 (by omega)
  rw [← hj] at j1 j2 j3 j4
  rw [← hro] at j1 j2
  refine ⟨fun i w hi => ?_, fun k hk hno => ?_, j4⟩
  · obtain ⟨s, hs, hoff, a1, a2⟩ := j1 i w hi
    refine ⟨s, hs, a1, a2, fun hon => ?_⟩
    apply Classical.byContradiction
    intro hno
    have hl := l2 s hs
    rw [if_neg (fun hc => hno hc.2)] at hl
    unfold isOn at hoff hon
    rw [hl, hon] at hoff
    cases hoff
  · rw [j2 k hk hno, l2 k hk]
theorem nx_joined_at {x : Co.Seat} (hx : x ∈ (nextT t b).joined) : ∃ (i s : Nat), b.Joins[i]? = some x.Who ∧ i < b.Joins.length ∧ s < 64 ∧ x.Slot = s ∧ ent (nextT t b).t.Roster s = ⟨x.Who, t.Fresh + cntTo (replaced (nextT t b).left) 21 + i, t.Epoch + 1⟩ ∧ (isOn t.Roster s = true → (ent t.Roster s).Who ∈ b.Leaves) := by
  obtain ⟨i, hi⟩ := List.getElem?_of_mem hx
  have hlen := (nextT_joined h).1
  have hil : i < b.Joins.length := by
    have := (List.getElem?_eq_some_iff.1 hi).1
    omega
  obtain ⟨s, hs, a1, a2, a3⟩ := (nx_moved h).1 i b.Joins[i] (List.getElem?_eq_getElem hil)
  rw [hi] at a1
  simp only [Option.some.injEq] at a1
  subst a1
  exact ⟨i, s, List.getElem?_eq_getElem hil, hil, hs, rfl, a2, a3⟩
/-- A seat of the new tree: it stayed, somebody joined there, or it is free. -/
theorem nx_seat (k : Nat) (hk : k < 64) : (∃ x ∈ (nextT t b).joined, x.Slot = k) ∨
    ((∀ x ∈ (nextT t b).joined, x.Slot ≠ k) ∧ ((isOn t.Roster k = true ∧ (ent t.Roster k).Who ∈ b.Leaves ∧ ent (nextT t b).t.Roster k = zeroE) ∨ (¬ (isOn t.Roster k = true ∧ (ent t.Roster k).Who ∈ b.Leaves) ∧ ent (nextT t b).t.Roster k = ent t.Roster k))) := by
  by_cases hj : ∃ x ∈ (nextT t b).joined, x.Slot = k
  · exact .inl hj
  · have hno : ∀ x ∈ (nextT t b).joined, x.Slot ≠ k := fun x hx e => hj ⟨x, hx, e⟩
    refine .inr ⟨hno, ?_⟩
    have := (nx_moved h).2.1 k hk hno
    by_cases hc : isOn t.Roster k = true ∧ (ent t.Roster k).Who ∈ b.Leaves
    · rw [if_pos hc] at this; exact .inl ⟨hc.1, hc.2, this⟩
    · rw [if_neg hc] at this; exact .inr ⟨hc, this⟩
theorem nx_roster : GoodR (nextT t b).t.Roster := by
  obtain ⟨hg, _, hfi, _, _, _⟩ := nextT_ok h
  obtain ⟨_, _, _, _, _, hgr, _, hgs⟩ := goodTree_iff.1 hg
  have hR := goodR_iff.1 hgr
  have hep := nx_epoch h
  have hfr := nx_fresh h
  have hro := nx_room h
  obtain ⟨hnd, hjs⟩ := nx_joins h
  have seat : ∀ k : Nat, k < 64 → isOn (nextT t b).t.Roster k = true → (∃ i : Nat, i < b.Joins.length ∧ b.Joins[i]? = some (ent (nextT t b).t.Roster k).Who ∧ (ent (nextT t b).t.Roster k).Base = t.Fresh + cntTo (replaced (nextT t b).left) 21 + i) ∨ (isOn t.Roster k = true ∧ ent (nextT t b).t.Roster k = ent t.Roster k) := fun k hk hon => by
    rcases nx_seat h k hk with ⟨x, hx, hxk⟩ | ⟨_, ⟨_, _, hz⟩ | ⟨_, he⟩⟩
    · obtain ⟨i, s, h1, h2, hs, h3, h4, _⟩ := nx_joined_at h hx
      have : s = k := by omega
      subst this
      exact .inl ⟨i, h2, by rw [h4]; exact h1, by rw [h4]⟩
    · unfold isOn at hon; rw [hz] at hon; simp at hon
    · refine .inr ⟨?_, he⟩
      unfold isOn at hon ⊢
      rwa [he] at hon
  have place : ∀ k : Nat, k < 64 → isOn (nextT t b).t.Roster k = true → ∀ a : Nat, (ent (nextT t b).t.Roster k).Base = t.Fresh + cntTo (replaced (nextT t b).left) 21 + (a : Int) → ∃ w, (nextT t b).joined[a]? = some ⟨w, k⟩ := fun k hk hon a hb => by
    rcases nx_seat h k hk with ⟨x, hx, hxk⟩ | ⟨_, ⟨_, _, hz⟩ | ⟨_, he⟩⟩
    · obtain ⟨j, hj⟩ := List.getElem?_of_mem hx
      have hjl : j < b.Joins.length := by have := (List.getElem?_eq_some_iff.1 hj).1; have := (nextT_joined h).1; omega
      obtain ⟨s3, hs3, c1, c2, _⟩ := (nx_moved h).1 j b.Joins[j] (List.getElem?_eq_getElem hjl)
      rw [hj] at c1
      simp only [Option.some.injEq] at c1
      have e3 : s3 = k := by rw [c1] at hxk; simp only at hxk; omega
      subst e3
      rw [c2] at hb
      simp only at hb
      have e4 : j = a := by omega
      subst e4
      exact ⟨_, by rw [hj, c1]⟩
    · unfold isOn at hon; rw [hz] at hon; simp at hon
    · rw [he] at hb
      have := (hgs k hk).1
      omega
  have hbase : ∀ i k : Nat, i < 64 → k < 64 → isOn (nextT t b).t.Roster i = true → isOn (nextT t b).t.Roster k = true → (ent (nextT t b).t.Roster i).Base = (ent (nextT t b).t.Roster k).Base → i = k := fun i k hi hk h1 h2 he => by
    rcases seat i hi h1 with ⟨a, ha, ha1, ha2⟩ | ⟨ho1, he1⟩ <;> rcases seat k hk h2 with ⟨c, hc, hc1, hc2⟩ | ⟨ho2, he2⟩
    · have hac : a = c := by omega
      subst hac
      obtain ⟨w1, e1⟩ := place i hi h1 a ha2
      obtain ⟨w2, e2⟩ := place k hk h2 a hc2
      rw [e1] at e2
      simp only [Option.some.injEq, Seat.mk.injEq] at e2
      omega
    · have := (hgs k hk).1
      rw [ha2, he2] at he; omega
    · have := (hgs i hi).1
      rw [hc2, he1] at he; omega
    · exact hR.base i k hi hk ho1 ho2 (by rw [← he1, ← he2, he])
  refine ⟨fun k hk => ?_, fun i k hi hk h1 h2 he => ?_, hbase⟩
  · rcases nx_seat h k hk with ⟨x, hx, hxk⟩ | ⟨_, ⟨_, _, hz⟩ | ⟨_, he⟩⟩
    · obtain ⟨i, s, a1, a2, hs, a3, a4, _⟩ := nx_joined_at h hx
      have : s = k := by omega
      subst this
      rw [a4]
      have hw := hjs x.Who (List.mem_of_getElem? a1)
      refine .inr (goodE_iff.2 ⟨hw.1, hw.2.1, ?_, ?_, ?_, ?_⟩) <;> simp only <;> omega
    · exact .inl hz
    · rw [he]; exact hR.one k hk
  · rcases seat i hi h1 with ⟨a, ha, ha1, ha2⟩ | ⟨ho1, he1⟩ <;> rcases seat k hk h2 with ⟨c, hc, hc1, hc2⟩ | ⟨ho2, he2⟩
    · have hac : a = c := by
        rw [he] at ha1
        exact (List.getElem?_inj ha hnd).1 (ha1.trans hc1.symm)
      subst hac
      exact hbase i k hi hk h1 h2 (by rw [ha2, hc2])
    · have := hjs _ (List.mem_of_getElem? ha1)
      exact absurd (by rw [he, he2]) (this.2.2.2 k hk ho2)
    · have := hjs _ (List.mem_of_getElem? hc1)
      exact absurd (by rw [← he, he1]) (this.2.2.2 i hi ho1)
    · exact hR.who i k hi hk ho1 ho2 (by rw [← he1, ← he2, he])
/-- The new tree is right. -/
theorem nx_good : goodTree (nextT t b).t = true := by
  obtain ⟨hg, _, hfi, _, _, _⟩ := nextT_ok h
  obtain ⟨_, _, _, _, _, hgr, hgk, hgs⟩ := goodTree_iff.1 hg
  have hep := nx_epoch h
  have hfr := nx_fresh h
  have hro := nx_room h
  obtain ⟨hk, hk1, hk2, hk3, hk4⟩ := nx_turn h
  have key : ∀ v : Nat, v < 21 → (inB (replaced (nextT t b).left) v = true ∧ t.Fresh ≤ bas (nextT t b).t.Keys v ∧ bas (nextT t b).t.Keys v < t.Fresh + cntTo (replaced (nextT t b).left) 21 ∧ stp (nextT t b).t.Keys v = 0) ∨ (¬ inB (replaced (nextT t b).left) v = true ∧ bas (nextT t b).t.Keys v = bas t.Keys v ∧ stp (nextT t b).t.Keys v = stp t.Keys v + 1) := fun v hv => by
    rw [hk, bas, stp, turned_get _ _ _ v hv]
    by_cases hin : inB (replaced (nextT t b).left) v = true
    · have := fresh_bounds (k := t.Keys) hk3 hv hin
      exact .inl ⟨hin, this.1, this.2.1, this.2.2.2.2.1⟩
    · rw [kept_at hin]
      exact .inr ⟨hin, rfl, rfl⟩
  refine goodTree_iff.2 ⟨by omega, by omega, by omega, hro.1, ?_, goodR_iff.2 (nx_roster h), fun v hv => ?_, fun s hs => ?_⟩
  · rw [hk]; exact goodKeys_turned hk1 hk3 hk4
  · have := hgk v hv
    rcases key v hv with ⟨_, h1, h2, h3⟩ | ⟨_, h1, h2⟩ <;> omega
  · have hb0 : ∀ v : Nat, v < 21 → 1 ≤ bas (nextT t b).t.Keys v := fun v hv => by
      have := good_iff.1 (goodKeys_iff.1 hk1 v hv).1
      rcases key v hv with ⟨_, h1, h2, h3⟩ | ⟨_, h1, h2⟩
      · omega
      · rw [h1]; exact this.1
    rcases nx_seat h s hs with ⟨x, hx, hxk⟩ | ⟨_, ⟨_, _, hz⟩ | ⟨_, he⟩⟩
    · obtain ⟨i, k, a1, a2, hs2, a3, a4, _⟩ := nx_joined_at h hx
      have : k = s := by omega
      subst this
      rw [a4]
      refine ⟨by simp only; omega, by simp only; omega, fun v hv => ?_⟩
      have := hgk v hv
      simp only
      rcases key v hv with ⟨_, h1, h2, h3⟩ | ⟨_, h1, h2⟩ <;> omega
    · rw [hz]
      refine ⟨by simp only; omega, by simp only; omega, fun v hv => ?_⟩
      have := hb0 v hv
      simp only; omega
    · rw [he]
      have h0 := hgs s hs
      refine ⟨by omega, by omega, fun v hv => ?_⟩
      rcases key v hv with ⟨_, h1, h2, h3⟩ | ⟨_, h1, h2⟩
      · omega
      · rw [h1]; exact h0.2.2 v hv
end
end Go.Co.N
end

section
namespace Go.Co.N
open Go Go.Co

/-! ### Members -/
/-! ### Messages' parts -/
theorem mask_below : allN 85 (fun v => allN 85 fun w => decide (decide (bw BinOp.and IntKind.u64 (maskF v) (maskF w) = maskF w) = below v w)) = true := by decide +kernel
theorem maskF_eq {v : Int} (h0 : 0 ≤ v) (h1 : v < 85) : mask v = maskF v := by
  have := allN_iff.1 mask_all v.toNat (by omega)
  simp only [decide_eq_true_eq] at this
  rw [Int.toNat_of_nonneg h0] at this
  exact this.symm
theorem level_neg {v : Int} : level v < 0 ↔ node v = false := by
  by_cases h : 0 ≤ v ∧ v < 85
  · have hn : node v = true := node_iff.2 h
    rcases level_in h.1 h.2 with ⟨_, hl⟩ | ⟨_, _, hl⟩ | ⟨_, _, hl⟩ | ⟨_, hl⟩ <;> rw [hl, hn] <;> simp
  · have hn : node v = false := Bool.eq_false_iff.2 fun hn => h (node_iff.1 hn)
    rw [level_out h, hn]; simp
theorem eq_shape_Below : Eqs c_shape_Below g_shape_Below := Eqs.tot fun (v, w, _) _ => by
  change Int at v w
  simp only [g_shape_Below, level_neg]
  cases hv : node v with
  | false => simp [below, hv]
  | true =>
    cases hw : node w with
    | false => simp [below, hw]
    | true =>
      have h1 := node_iff.1 hv
      have h2 := node_iff.1 hw
      have := allN_iff.1 (allN_iff.1 mask_below v.toNat (by omega)) w.toNat (by omega)
      simp only [decide_eq_true_eq] at this
      rw [Int.toNat_of_nonneg h1.1, Int.toNat_of_nonneg h2.1] at this
      simp only [Bool.true_eq_false, decide_false, cond_false]
      rw [maskF_eq h1.1 h1.2, maskF_eq h2.1 h2.2, this]
def parts (a b c d : Bool) : Arr 4 Bool := Arr.put (Arr.put (Arr.put (Arr.put (Vector.replicate 4 false) 0 a) 1 b) 2 c) 3 d
def partAt (a b c d : Bool) : Nat → Bool
  | 0 => a
  | 1 => b
  | 2 => c
  | _ => d
end Go.Co.N
end

section
namespace Go.Co.N
open Go Go.Co

/-! ### The laws -/
section
variable {t : Tree} (hg : goodTree t = true) {s : Nat} (hs : s < 64) (hon : isOn t.Roster s = true)
include hg hs hon
end
end Go.Co.N
end

section
namespace Go.Co.N
open Go Go.Co

/-! ### Keys -/
/-! ### Masks -/
theorem bw_or32 (n m : Nat) (hn : n < 4294967296) (hm : m < 4294967296) : bw .or .u32 (n : Int) (m : Int) = ((n ||| m : Nat) : Int) := by
  have e1 : BitVec.ofInt IntKind.u32.bits (n : Int) = BitVec.ofNat 32 n := by simp [IntKind.bits]
  have e2 : BitVec.ofInt IntKind.u32.bits (m : Int) = BitVec.ofNat 32 m := by simp [IntKind.bits]
  have hle : n ||| m < 4294967296 := Nat.or_lt_two_pow (n := 32) hn hm
  unfold bw
  simp only [e1, e2]
  have e3 : (BitVec.ofNat 32 n ||| BitVec.ofNat 32 m).toNat = n ||| m := by
    simp [BitVec.toNat_or, Nat.mod_eq_of_lt hn, Nat.mod_eq_of_lt hm]
  show IntKind.u32.wrap (((BitVec.ofNat 32 n ||| BitVec.ofNat 32 m).toNat : Nat) : Int) = _
  rw [e3, Go.IntWalk.u32_in _ (by omega)]
theorem word_up32 (p : Nat → Bool) {n : Nat} (h : n ≤ 32) : word p n < 4294967296 := Nat.lt_of_lt_of_le (word_lt p n) (Nat.pow_le_pow_right (by omega) h : 2 ^ n ≤ 2 ^ 32)
theorem shl_one32 (i : Nat) (h : i < 32) : shlI .u32 1 (IntKind.u64.wrap (i : Int)) = ((2 ^ i : Nat) : Int) := by
  rw [Go.IntWalk.u64_in _ (by omega)]
  unfold shlI
  have : min (Int.toNat (i : Int)) IntKind.u32.bits = i := by simp [IntKind.bits]; omega
  rw [this, Int.one_mul]
  have h2 : (2 : Nat) ^ i < 2 ^ 32 := Nat.pow_lt_pow_right (by omega) h
  have h3 : ((2 : Int) ^ i) = ((2 ^ i : Nat) : Int) := by simp
  rw [h3]
  generalize 2 ^ i = x at h2
  exact Go.IntWalk.u32_in _ (by omega)
theorem word_or32 (p : Nat → Bool) (i : Nat) (h : i < 32) : bw .or .u32 (word p i : Nat) (shlI .u32 1 (IntKind.u64.wrap (i : Int))) = ((word p i + 2 ^ i : Nat) : Int) := by
  have h2 : (2 : Nat) ^ i < 2 ^ 32 := Nat.pow_lt_pow_right (by omega) h
  rw [shl_one32 i h, bw_or32 _ _ (word_up32 p (by omega)) h2]
  congr 1
  rw [Nat.or_comm, Nat.add_comm, show 2 ^ i + word p i = 2 ^ i * 1 + word p i by omega, Nat.two_pow_add_eq_or_of_lt (word_lt p i), Nat.mul_one]
theorem eq_shape_Above : Eqs c_shape_Above g_shape_Above := Eqs.tot fun (s, _) _ => by
  change Int at s
  simp only [g_shape_Above]
  rw [lfp_run' (fun i => ((s, ((word (fun v => !decide (bw .and .u64 (mask v) s = 0)) i : Nat) : Int), (i : Int), ()), (), ())) 21 (by rfl) fun i hi => by
    have h1 : (i : Int) < 21 := by omega
    simp only [g_shape_Above_r1, h1, decide_true, cond_true, wrap1 i (by omega), word_or32 _ i (by omega : i < 32), word]
    cases decide (bw .and .u64 (mask (i : Int)) s = 0) <;> rfl]
  rw [lfp_inr (z := ((((word (fun v => !decide (bw .and .u64 (mask v) s = 0)) 21 : Nat) : Int), ()), (), ())) (by simp [g_shape_Above_r1])]
  rfl
theorem word_or_word (p q : Nat → Bool) : bw .or .u64 (word p 64 : Nat) (word q 64 : Nat) = ((word (fun i => p i || q i) 64 : Nat) : Int) := by
  rw [bw_or64 _ _ (word_64 p) (word_64 q)]
  congr 1
  apply Nat.eq_of_testBit_eq
  intro i
  rw [Nat.testBit_or, word_bit, word_bit, word_bit]
  cases decide (i < 64) <;> cases p i <;> cases q i <;> rfl
/-- The slots of these seats. -/
def slotsB (l : List Co.Seat) (i : Nat) : Bool := l.any fun s => below (leaf s.Slot) (leaf i)
theorem mask_leaf (s : Int) : mask (leaf s) = ((word (fun i => below (leaf s) (leaf i)) 64 : Nat) : Int) := rfl
theorem word_nil : word (slotsB []) 64 = 0 := by decide +kernel
theorem slotsB_app (l : List Co.Seat) (s : Co.Seat) : (fun i => slotsB l i || below (leaf s.Slot) (leaf (i : Int))) = slotsB (l ++ [s]) := by
  funext i; simp [slotsB]
theorem seats_mask {Z : Type} (fin : Int → Z) : ∀ (l acc : List Co.Seat), foldE (fun (a : Int) (s : Co.Seat) => (Sum.inl (bw .or .u64 a (mask (leaf s.Slot))) : Int ⊕ Z)) fin l ((word (slotsB acc) 64 : Nat) : Int) = fin ((word (slotsB (acc ++ l)) 64 : Nat) : Int)
  | [], acc => by simp [foldE]
  | s :: l, acc => by
    simp only [foldE]
    rw [mask_leaf, word_or_word, slotsB_app, seats_mask fin l]
    simp
theorem leaf_below : allN 64 (fun k => allN 64 fun i => decide (below (leaf k) (leaf i) = decide (k = i))) = true := by decide +kernel
theorem below_leaf_slot (v : Nat) (s : Int) : below (v : Int) (leaf s) = anyN 64 fun i => below v (leaf i) && below (leaf s) (leaf i) := by
  by_cases h : 0 ≤ s ∧ s < 64
  · obtain ⟨k, rfl⟩ := Int.eq_ofNat_of_zero_le h.1
    have hk : k < 64 := by omega
    have hkb := allN_iff.1 leaf_below k hk
    refine bool_eq ?_
    rw [anyN_iff]
    constructor
    · intro hb
      have := allN_iff.1 hkb k hk
      simp only [decide_eq_true_eq] at this
      exact ⟨k, hk, by rw [hb, this]; simp⟩
    · rintro ⟨i, hi, hb⟩
      simp only [Bool.and_eq_true] at hb
      have := allN_iff.1 hkb i hi
      simp only [decide_eq_true_eq] at this
      rw [this] at hb
      have hki : k = i := by simpa using hb.2
      subst hki; exact hb.1
  · have : leaf s = -1 := by unfold leaf; rw [if_neg h]
    rw [this]
    have h0 : below (v : Int) (-1) = false := by simp [below, node]
    have h1 : ∀ w, below (-1) w = false := fun w => by simp [below, node]
    rw [h0]; exact (anyN_false.2 fun i _ => by rw [h1]; simp).symm
theorem above_slots (l : List Co.Seat) : aboveM ((word (slotsB l) 64 : Nat) : Int) = replaced l := by
  unfold aboveM
  rw [replaced_eq]
  congr 1
  refine word_congr 21 fun v _ => ?_
  rw [show mask (v : Int) = ((word (fun i => below v (leaf i)) 64 : Nat) : Int) from rfl, word_and]
  have e : decide (((word (fun i => below v (leaf i) && slotsB l i) 64 : Nat) : Int) = 0) = decide (word (fun i => below v (leaf i) && slotsB l i) 64 = 0) := by congr 1; simp
  rw [e]
  refine bool_eq ?_
  simp only [Bool.not_eq_true', decide_eq_false_iff_not, word_0]
  unfold hitB slotsB
  rw [List.any_eq_true]
  constructor
  · intro h
    have : ∃ i : Nat, i < 64 ∧ (below v (leaf i) && l.any fun s => below (leaf s.Slot) (leaf i)) = true := by
      apply Classical.byContradiction
      intro hn
      exact h fun i hi => Bool.eq_false_iff.2 fun hb => hn ⟨i, hi, hb⟩
    obtain ⟨i, hi, hb⟩ := this
    simp only [Bool.and_eq_true, List.any_eq_true] at hb
    obtain ⟨h1, s, hs, h2⟩ := hb
    exact ⟨s, hs, by rw [below_leaf_slot]; exact anyN_iff.2 ⟨i, hi, by rw [h1, h2]; rfl⟩⟩
  · rintro ⟨s, hs, hb⟩ h
    rw [below_leaf_slot] at hb
    obtain ⟨i, hi, h2⟩ := anyN_iff.1 hb
    simp only [Bool.and_eq_true] at h2
    have := h i hi
    simp only [Bool.and_eq_false_iff, List.any_eq_false] at this
    rcases this with h3 | h3
    · rw [h2.1] at h3; cases h3
    · exact h3 s hs h2.2
theorem eq_plan_Replaced : Eqs c_plan_Replaced g_plan_Replaced := Eqs.tot fun (l, _) hf => by
  have hlen : List.length (l : List Co.Seat) * 16 ≤ 140737488355328 := fine_seat_list hf.1
  simp only [g_plan_Replaced]
  have h := lfp_list (f := g_plan_Replaced_r1) (l : List Co.Seat) (fun i (a : Int) => ((a, (l : List Co.Seat), (List.length (l : List Co.Seat) : Int), (i : Int), ()), (), ()))
    (fun a s => Sum.inl (bw .or .u64 a (mask (leaf s.Slot)))) (fun _ _ _ => True) (fun a => ((a, ()), (), ()))
    (fun i x rest a _ hi hx _ => by
      refine ⟨fun _ _ => trivial, ?_⟩
      have g1 : (i : Int) < (List.length (l : List Co.Seat) : Int) := by omega
      simp only [g_plan_Replaced_r1, g1, hx, decide_true, cond_true, Int.natCast_nonneg, Bool.and_self, wrap1' hi (by omega)])
    (fun a _ => by simp [g_plan_Replaced_r1]) l 0 0 rfl (by omega) trivial
  have h2 := seats_mask (fun a => ((a, ()), (), ())) (l : List Co.Seat) []
  rw [word_nil] at h2
  rw [show ((0 : Nat) : Int) = 0 from rfl] at h2
  rw [h2] at h
  rw [show lfp g_plan_Replaced_r1 ((0, (l : List Co.Seat), (List.length (l : List Co.Seat) : Int), 0, ()), (), ()) = _ from h]
  simp only [Option.bind_some, List.nil_append, above_slots]

/-! ### Members -/
end Go.Co.N
end

section
namespace Go.Co.N
open Go Go.Co

/-! ### Kinds -/
end Go.Co.N
end

section
namespace Go.Co.N
open Go Go.Co

/-! ### Items -/
/-! ### Up from a leaf -/
/-- The node below a path's place. -/
def belowAt (s : Nat) : Nat → Int
  | 0 => leaf s
  | i + 1 => pathAt s i
theorem path_child : allN 64 (fun s => allN 3 fun i => (anyN 4 fun j => decide (child (pathAt s i) j = belowAt s i)) && below (belowAt s i) (leaf s) && below (pathAt s i) (leaf s)) = true := by decide +kernel
theorem pathG_at {s : Nat} (hs : s < 64) (i : Nat) (hi : i < 3) : Arr.get (pathG (s : Int)) (i : Int) = pathAt s i := by
  unfold pathG
  rw [decide_eq_true (leaf_pos.2 ⟨by omega, by omega⟩)]
  exact pathN_get _ _ hi
theorem path_at {s : Nat} (hs : s < 64) (i : Nat) (hi : i < 3) : ∃ v : Nat, pathAt (s : Int) i = v ∧ v < 21 ∧ (∃ j : Nat, j < 4 ∧ child v j = belowAt s i) ∧ below (belowAt s i) (leaf s) = true ∧ below (pathAt s i) (leaf s) = true := by
  obtain ⟨h1, h2⟩ := pathAt_in (s := (s : Int)) (by omega) (by omega) i
  obtain ⟨v, hv⟩ := Int.eq_ofNat_of_zero_le h1
  have := allN_iff.1 (allN_iff.1 path_child s hs) i hi
  simp only [Bool.and_eq_true] at this
  obtain ⟨⟨h3, h4⟩, h5⟩ := this
  obtain ⟨j, hj, h6⟩ := anyN_iff.1 h3
  simp only [decide_eq_true_eq] at h6
  exact ⟨v, hv, by omega, ⟨j, hj, by rw [← hv]; exact h6⟩, h4, h5⟩
/-- A node's key in a tree. -/
abbrev keyN (n : Tree) (v : Int) : Key := (ofT n v).1
theorem keyN_inner (n : Tree) {v : Nat} (hv : v < 21) : keyN n v = Arr.get n.Keys (v : Int) := by rw [keyN, ofT_inner n hv]
theorem keyN_leaf (n : Tree) {s : Nat} (hs : s < 64) : keyN n (leaf s) = (leafAt (ent n.Roster s) n.Epoch).1 := by
  rw [keyN, leaf_in hs, show (21 + (s : Int)) = ((21 + s : Nat) : Int) by omega, ofT_leaf n hs]
theorem good_inner {n : Tree} (hg : goodTree n = true) {v : Nat} (hv : v < 21) : good (keyN n v) = true := by
  rw [keyN_inner n hv]; exact (goodKeys_iff.1 (goodTree_iff.1 hg).2.2.2.2.1 v hv).1
theorem good_leafK {n : Tree} (hg : goodTree n = true) {s : Nat} (hs : s < 64) (hon : isOn n.Roster s = true) : good (keyN n (leaf s)) = true := by
  have h0 : (ofT n ((21 + s : Nat) : Int)).2 = 0 := by rw [ofT_leaf n hs, leafAt_on hg hs hon]
  have := (ofT_ok hg (show 21 + s < 85 by omega) h0).1
  rw [keyN, leaf_in hs, show (21 + (s : Int)) = ((21 + s : Nat) : Int) by omega]
  exact this
section
variable {t : Tree} {b : Batch} (h : (nextT t b).e = 0)
/-- A step's message. -/
def msgOf (t : Tree) (b : Batch) : Rekey := ⟨(nextT t b).t.Epoch, (nextT t b).left, (nextT t b).joined, items (nextT t b).t (nextT t b).left (nextT t b).joined⟩
theorem nextR_eq : nextR t b = bif decide ((nextT t b).e = 0) then ((nextT t b).t, msgOf t b, 0) else (zeroT, St.zero .rekey, (nextT t b).e) := rfl
include h in
theorem nextR_is : nextR t b = ((nextT t b).t, msgOf t b, 0) := by rw [nextR_eq, decide_eq_true h]; rfl
include h
/-! ### The message is right -/
theorem joined_on {x : Co.Seat} (hx : x ∈ (nextT t b).joined) : ∃ s : Nat, s < 64 ∧ x.Slot = s ∧ isOn (nextT t b).t.Roster s = true ∧ (ent (nextT t b).t.Roster s).Who = x.Who ∧ (ent (nextT t b).t.Roster s).Since = t.Epoch + 1 := by
  obtain ⟨i, s, a1, a2, hs, a3, a4, _⟩ := nx_joined_at h hx
  have := nx_room h
  exact ⟨s, hs, a3, isOn_iff.2 (by rw [a4]; simp only; omega), by rw [a4], by rw [a4]⟩
theorem left_at {x : Co.Seat} (hx : x ∈ (nextT t b).left) : x.Who ∈ b.Leaves ∧ ∃ s : Nat, s < 64 ∧ x.Slot = s ∧ isOn t.Roster s = true ∧ (ent t.Roster s).Who = x.Who := by
  rw [nx_left h] at hx
  obtain ⟨w, hw, rfl⟩ := List.mem_map.1 hx
  obtain ⟨s, hs, he, hon, hwho⟩ := (nx_leaves h).2 w hw
  exact ⟨hw, s, hs, he, hon, hwho⟩
/-! ### The message at devices -/
end
end Go.Co.N
end

section
set_option maxRecDepth 100000
noncomputable section
namespace Go.Co.N
open Go Go.Co
end Go.Co.N
end
end

section
namespace Go.Co.N
open Go Go.Co

theorem lat_app_lt {α : Type} [Inhabited α] (l : List α) (y : α) {i : Nat} (h : i < l.length) : lat (l ++ [y]) (i : Int) = lat l (i : Int) := by
  rw [lat_nat _ _ (by simp; omega), lat_nat _ _ h, List.getElem_append_left h]
theorem lat_app_last {α : Type} [Inhabited α] (l : List α) (y : α) : lat (l ++ [y]) (l.length : Int) = y := by
  rw [lat_nat _ _ (by simp)]; simp
/-- Trees of a row: each one epoch on. -/
structure Chain (t : Tree) (a : List Tree) : Prop where
  ne : 1 ≤ a.length
  ep : ∀ i : Nat, i < a.length → (lat a (i : Int)).Epoch = t.Epoch + i
  le : a.length = 1 ∨ (0 ≤ t.Epoch ∧ t.Epoch + a.length ≤ 201)
theorem nextR_ok {t : Tree} {b : Batch} (h : (nextR t b).2.2 = 0) : (nextR t b).1.Epoch = t.Epoch + 1 ∧ 0 ≤ t.Epoch ∧ t.Epoch < 200 := by
  have h0 : (nextT t b).e = 0 := by
    by_cases h0 : (nextT t b).e = 0
    · exact h0
    · have : (nextR t b).2.2 = (nextT t b).e := by unfold nextR; rw [decide_eq_false h0]; rfl
      exact this ▸ h
  have h1 : (nextR t b).1 = (nextT t b).t := by unfold nextR; rw [decide_eq_true h0]; rfl
  rw [h1]
  by_cases hg : goodTree t = true
  case neg => simp [nextT, hg] at h0
  by_cases he : t.Epoch = 200
  case pos => simp [nextT, hg, he] at h0
  by_cases hf : fits t.Roster b = 0
  case neg => simp [nextT, hg, he, hf] at h0
  by_cases hs : (stepTurn t b).2.2 = 0
  case neg => simp [nextT, hg, he, hf, hs] at h0
  by_cases hm : (stepMove t b).e = 0
  case neg => simp [nextT, hg, he, hf, hs, hm] at h0
  obtain ⟨g1, g2, _⟩ := goodTree_iff.1 hg
  refine ⟨?_, g1, by omega⟩
  simp [nextT, hg, he, hf, hs, hm]
theorem Chain.more {t : Tree} {a : List Tree} (h : Chain t a) {b : Batch} {last : Tree} (hl : lat a ((a.length : Int) - 1) = last) (hn : (nextR last b).2.2 = 0) : Chain t (a ++ [(nextR last b).1]) ∧ a.length ≤ 200 := by
  obtain ⟨n1, n2, n3⟩ := nextR_ok hn
  have h1 := h.ne
  have hle := h.ep (a.length - 1) (by omega)
  rw [show ((a.length - 1 : Nat) : Int) = (a.length : Int) - 1 by omega, hl] at hle
  have h3 := h.le
  refine ⟨⟨by simp, fun i hi => ?_, ?_⟩, by omega⟩
  · by_cases hlt : i < a.length
    · rw [lat_app_lt _ _ hlt]; exact h.ep i hlt
    · have : i = a.length := by simp at hi; omega
      subst this
      rw [lat_app_last, n1]; omega
  · right
    simp only [List.length_append, List.length_cons, List.length_nil]
    omega
end Go.Co.N
end

section
namespace Go.Co.N
open Go Go.Co

/-! ### In step -/
end Go.Co.N
end

section
namespace Go.Co.N
open Go Go.Co

/-- Trees, each made of the one before, and the messages. -/
structure Runs (trees : List Tree) (row : List Rekey) : Prop where
  len : trees.length = row.length + 1
  step : ∀ i : Nat, i < row.length → ∃ b, (nextT (lat trees (i : Int)) b).e = 0 ∧ lat trees ((i + 1 : Nat) : Int) = (nextT (lat trees (i : Int)) b).t ∧ lat row (i : Int) = msgOf (lat trees (i : Int)) b
theorem Runs.one (t : Tree) : Runs [t] [] := ⟨rfl, fun i hi => by simp at hi⟩
theorem Runs.more {trees : List Tree} {row : List Rekey} (h : Runs trees row) {b : Batch} (hn : (nextT (lat trees (row.length : Int)) b).e = 0) : Runs (trees ++ [(nextT (lat trees (row.length : Int)) b).t]) (row ++ [msgOf (lat trees (row.length : Int)) b]) := by
  have hl := h.len
  refine ⟨by simp [hl], fun i hi => ?_⟩
  simp only [List.length_append, List.length_cons, List.length_nil] at hi
  by_cases e : i = row.length
  · subst e
    refine ⟨b, ?_, ?_, ?_⟩
    · rw [lat_app_lt _ _ (by omega)]; exact hn
    · rw [show ((row.length + 1 : Nat) : Int) = (trees.length : Int) by omega, lat_app_last, lat_app_lt _ _ (by omega)]
    · rw [lat_app_last, lat_app_lt _ _ (by omega)]
  · obtain ⟨b', h1, h2, h3⟩ := h.step i (by omega)
    refine ⟨b', ?_, ?_, ?_⟩
    · rw [lat_app_lt _ _ (by omega)]; exact h1
    · rw [lat_app_lt _ _ (by omega), lat_app_lt _ _ (by omega)]; exact h2
    · rw [lat_app_lt _ _ (by omega), lat_app_lt _ _ (by omega)]; exact h3
theorem Runs.epoch {trees : List Tree} {row : List Rekey} (h : Runs trees row) : ∀ i : Nat, i ≤ row.length → (lat trees (i : Int)).Epoch = (lat trees 0).Epoch + i
  | 0, _ => by simp
  | i + 1, hi => by
    obtain ⟨b, h1, h2, _⟩ := h.step i (by omega)
    rw [h2, (nx_epoch h1).1, Runs.epoch h i (by omega)]; omega
theorem Runs.good {trees : List Tree} {row : List Rekey} (h : Runs trees row) (hr : 0 < row.length) (i : Nat) (hi : i ≤ row.length) : goodTree (lat trees (i : Int)) = true := by
  cases i with
  | zero =>
    obtain ⟨b, h1, _, _⟩ := h.step 0 hr
    exact (nextT_ok h1).1
  | succ i =>
    obtain ⟨b, h1, h2, _⟩ := h.step i (by omega)
    rw [h2]; exact nx_good h1
theorem Runs.le {trees : List Tree} {row : List Rekey} (h : Runs trees row) : row.length ≤ 200 := by
  by_cases hr : row.length = 0
  · omega
  · have h0 := h.epoch row.length (by omega)
    have hg := goodTree_iff.1 (h.good (by omega) row.length (by omega))
    have hg0 := goodTree_iff.1 (h.good (by omega) 0 (by omega))
    have : (lat trees ((0 : Nat) : Int)) = lat trees 0 := rfl
    rw [this] at hg0
    omega
section
variable {trees : List Tree} {row : List Rekey} (hR : Runs trees row) (hr : 0 < row.length) {t : Tree} {slot : Nat} (hs : slot < 64) (hon : isOn t.Roster slot = true) (picks : List Int) (hp : picks.length * 8 ≤ 140737488355328)
include hR hr hs hon hp
end
end Go.Co.N
end

section
namespace Go.Co.N
open Go Go.Co

theorem eq_key_Seal : Eqs c_key_Seal g_key_Seal := Eqs.tot fun (u, l, _) _ => by
  change Key at u l
  simp only [g_key_Seal, sealK]
  cases good u <;> cases good l <;> rfl
/-! ### Answers -/
/-! ### Taking -/
end Go.Co.N
end

section
namespace Go.Co.N
open Go Go.Co

/-! ### Brought on -/
section
variable {t last : Tree} (hgt : goodTree t = true) (hgl : goodTree last = true) (hle : t.Epoch ≤ last.Epoch) {s : Nat} (hs : s < 64) (hon : isOn t.Roster s = true)
include hgt hs hon
include hgl hle
end
end Go.Co.N
end
