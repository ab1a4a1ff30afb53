/-
  Rosters and trees: the functions answer what they are to answer.
  Own text, for the claims about coterie. No program in sight.
-/
import Derived.Test.YtghmcodjbkmlnaaN11P
namespace Go.Co.N
open Go Go.Co

/-! ### Words of slots -/
theorem word_lt (p : Nat → Bool) : ∀ n, word p n < 2 ^ n
  | 0 => by simp [word]
  | n + 1 => by
    have := word_lt p n
    simp only [word, Nat.pow_succ]
    cases p n <;> simp <;> omega
theorem word_bit (p : Nat → Bool) : ∀ n i : Nat, (word p n).testBit i = (decide (i < n) && p i)
  | 0, i => by simp [word]
  | n + 1, i => by
    have hlt := word_lt p n
    simp only [word]
    cases hp : p n with
    | false =>
      simp only [cond_false, Nat.add_zero]
      rw [word_bit p n i]
      by_cases hi : i = n
      · subst hi; simp [hp]
      · have : decide (i < n + 1) = decide (i < n) := by congr 1; simp only [eq_iff_iff]; omega
        rw [this]
    | true =>
      simp only [cond_true]
      rw [Nat.add_comm, show 2 ^ n + word p n = 2 ^ n * 1 + word p n by omega, Nat.two_pow_add_eq_or_of_lt hlt, Nat.testBit_or, word_bit p n i, Nat.mul_one, Nat.testBit_two_pow]
      by_cases hi : i = n
      · subst hi; simp [hp]
      · have : decide (i < n + 1) = decide (i < n) := by congr 1; simp only [eq_iff_iff]; omega
        rw [this]
        have h2 : decide (n = i) = false := by simp; omega
        rw [h2]; simp
theorem bwN {op : BinOp} {f : Nat → Nat → Nat} (hf : ∀ a b, a < 18446744073709551616 → b < 18446744073709551616 → f a b < 18446744073709551616)
    (hop : ∀ a b : Nat, a < 18446744073709551616 → b < 18446744073709551616 → (match op with | .and => BitVec.ofNat 64 a &&& BitVec.ofNat 64 b | .or => BitVec.ofNat 64 a ||| BitVec.ofNat 64 b | .xor => BitVec.ofNat 64 a ^^^ BitVec.ofNat 64 b | _ => BitVec.ofNat 64 a &&& ~~~BitVec.ofNat 64 b).toNat = f a b)
    (n m : Nat) (hn : n < 18446744073709551616) (hm : m < 18446744073709551616) : bw op .u64 (n : Int) (m : Int) = ((f n m : Nat) : Int) := by
  have e1 : BitVec.ofInt IntKind.u64.bits (n : Int) = BitVec.ofNat 64 n := by simp [IntKind.bits]
  have e2 : BitVec.ofInt IntKind.u64.bits (m : Int) = BitVec.ofNat 64 m := by simp [IntKind.bits]
  have h := hop n m hn hm
  have hl := hf n m hn hm
  unfold bw
  simp only [e1, e2]
  show IntKind.u64.wrap (((match op with | .and => BitVec.ofNat 64 n &&& BitVec.ofNat 64 m | .or => BitVec.ofNat 64 n ||| BitVec.ofNat 64 m | .xor => BitVec.ofNat 64 n ^^^ BitVec.ofNat 64 m | _ => BitVec.ofNat 64 n &&& ~~~BitVec.ofNat 64 m).toNat : Nat) : Int) = _
  rw [h, Go.IntWalk.u64_in _ (by omega)]
theorem bw_and64 (n m : Nat) (hn : n < 18446744073709551616) (hm : m < 18446744073709551616) : bw .and .u64 (n : Int) (m : Int) = ((n &&& m : Nat) : Int) :=
  bwN (f := fun a b => a &&& b) (fun a b ha _ => Nat.lt_of_le_of_lt Nat.and_le_left ha) (fun a b ha hb => by
    show (BitVec.ofNat 64 a &&& BitVec.ofNat 64 b).toNat = _
    simp [BitVec.toNat_and, Nat.mod_eq_of_lt ha, Nat.mod_eq_of_lt hb]) n m hn hm
theorem bw_or64 (n m : Nat) (hn : n < 18446744073709551616) (hm : m < 18446744073709551616) : bw .or .u64 (n : Int) (m : Int) = ((n ||| m : Nat) : Int) :=
  bwN (f := fun a b => a ||| b) (fun a b ha hb => Nat.or_lt_two_pow (n := 64) ha hb) (fun a b ha hb => by
    show (BitVec.ofNat 64 a ||| BitVec.ofNat 64 b).toNat = _
    simp [BitVec.toNat_or, Nat.mod_eq_of_lt ha, Nat.mod_eq_of_lt hb]) n m hn hm
theorem word_64 (p : Nat → Bool) : word p 64 < 18446744073709551616 := word_lt p 64
theorem word_up (p : Nat → Bool) {n : Nat} (h : n ≤ 64) : word p n < 18446744073709551616 := Nat.lt_of_lt_of_le (word_lt p n) (Nat.pow_le_pow_right (by omega) h : 2 ^ n ≤ 2 ^ 64)
theorem shl_one64 (i : Nat) (h : i < 64) : shlI .u64 1 (IntKind.u64.wrap (i : Int)) = ((2 ^ i : Nat) : Int) := by
  rw [Go.IntWalk.u64_in _ (by omega)]
  unfold shlI
  have : min (Int.toNat (i : Int)) IntKind.u64.bits = i := by simp [IntKind.bits]; omega
  rw [this, Int.one_mul]
  have h2 : (2 : Nat) ^ i < 2 ^ 64 := Nat.pow_lt_pow_right (by omega) h
  have h3 : ((2 : Int) ^ i) = ((2 ^ i : Nat) : Int) := by simp
  rw [h3]
  generalize 2 ^ i = x at h2
  exact Go.IntWalk.u64_in _ (by omega)
/-- A set with one slot more. -/
theorem word_or (p : Nat → Bool) (i : Nat) (h : i < 64) : bw .or .u64 (word p i : Nat) (shlI .u64 1 (IntKind.u64.wrap (i : Int))) = ((word p i + 2 ^ i : Nat) : Int) := by
  have h2 : (2 : Nat) ^ i < 2 ^ 64 := Nat.pow_lt_pow_right (by omega) h
  rw [shl_one64 i h, bw_or64 _ _ (word_up p (by omega)) h2]
  congr 1
  rw [Nat.or_comm, Nat.add_comm, show 2 ^ i + word p i = 2 ^ i * 1 + word p i by omega, Nat.two_pow_add_eq_or_of_lt (word_lt p i), Nat.mul_one]
theorem word_and (p q : Nat → Bool) : bw .and .u64 (word p 64 : Nat) (word q 64 : Nat) = ((word (fun i => p i && q i) 64 : Nat) : Int) := by
  rw [bw_and64 _ _ (word_64 p) (word_64 q)]
  congr 1
  apply Nat.eq_of_testBit_eq
  intro i
  rw [Nat.testBit_and, word_bit, word_bit, word_bit]
  cases decide (i < 64) <;> cases p i <;> cases q i <;> rfl
theorem word_0 {p : Nat → Bool} {n : Nat} : word p n = 0 ↔ ∀ i, i < n → p i = false := by
  constructor
  · intro h i hi
    have := word_bit p n i
    rw [h] at this
    simp [hi] at this; simp [this]
  · exact word_false n

/-! ### Rosters -/
theorem eq_roster_right : Eqs c_roster_right g_roster_right := Eqs.tot fun (e, _) _ => by
  have h1 : decide (0 < e.Base) = decide (1 ≤ e.Base) := by congr 1
  have h2 : decide (0 < e.Since) = decide (1 ≤ e.Since) := by congr 1
  simp only [g_roster_right, goodE, h1, h2]
  cases decide (0 ≤ e.Who) <;> cases decide (e.Who < 256) <;> cases decide (1 ≤ e.Base) <;> cases decide (e.Base < 32768) <;> cases decide (1 ≤ e.Since) <;> rfl
theorem eq_ref09_Right : Eqs c_ref09_Right g_ref09_Right := Eqs.tot fun (e, _) _ => by
  simp only [g_ref09_Right, goodE]
  cases decide (0 ≤ e.Who) <;> cases decide (e.Who < 256) <;> cases decide (1 ≤ e.Base) <;> cases decide (e.Base < 32768) <;> cases decide (1 ≤ e.Since) <;> rfl
/-- A map that counts those places that are asked for. -/
def cmapP (p : Nat → Bool) (g : Nat → Int) : Nat → List (Int × Int)
  | 0 => []
  | i + 1 => bif p i then mput (cmapP p g i) (g i) ((mget (cmapP p g i) (g i)).getD 0 + 1) else cmapP p g i
theorem cmapP_get (p : Nat → Bool) (g : Nat → Int) (b : Int) : ∀ i, 0 ≤ (mget (cmapP p g i) b).getD 0 ∧ (mget (cmapP p g i) b).getD 0 ≤ i ∧ ((mget (cmapP p g i) b).getD 0 = 0 ↔ ∀ j, j < i → p j = true → g j ≠ b)
  | 0 => by simp [cmapP, mget]
  | i + 1 => by
    obtain ⟨h1, h2, h3⟩ := cmapP_get p g b i
    simp only [cmapP]
    cases hp : p i with
    | false =>
      simp only [cond_false]
      refine ⟨h1, by omega, h3.trans ⟨fun h j hj hpj => ?_, fun h j hj => h j (by omega)⟩⟩
      by_cases he : j = i
      · subst he; rw [hp] at hpj; cases hpj
      · exact h j (by omega) hpj
    | true =>
      simp only [cond_true]
      rw [mget_mput]
      by_cases hb : g i = b
      · rw [if_pos hb, hb]
        simp only [Option.getD_some]
        refine ⟨by omega, by omega, ⟨fun h => by omega, fun h => absurd hb (h i (by omega) hp)⟩⟩
      · simp only [if_neg hb]
        refine ⟨h1, by omega, h3.trans ⟨fun h j hj hpj => ?_, fun h j hj => h j (by omega)⟩⟩
        by_cases he : j = i
        · subst he; exact hb
        · exact h j (by omega) hpj
theorem cmapP_succ (p : Nat → Bool) (g : Nat → Int) (i : Nat) (h : i < 1000000) (hp : p i = true) : mput (cmapP p g i) (g i) (IntKind.i64.wrap ((mget (cmapP p g i) (g i)).getD 0 + 1)) = cmapP p g (i + 1) := by
  have := cmapP_get p g (g i) i
  rw [i64_in _ (by omega)]; simp only [cmapP, hp, cond_true]
theorem cmapP_twice (p : Nat → Bool) (g : Nat → Int) (i : Nat) (hp : p i = true) : (1 < (mget (cmapP p g (i + 1)) (g i)).getD 0) ↔ ¬ ∀ j, j < i → p j = true → g j ≠ g i := by
  have := cmapP_get p g (g i) i
  simp only [cmapP, hp, cond_true]
  rw [mget_mput, if_pos rfl]
  simp only [Option.getD_some]
  rw [← this.2.2]
  omega
theorem entOk_zero {r : Roster} {i : Nat} (h : ent r i = zeroE) : entOk r i = true := by simp [entOk, h]
theorem entOk_iff {r : Roster} {i : Nat} (h : ¬ ent r i = zeroE) : entOk r i = true ↔ goodE (ent r i) = true ∧ ∀ k, k < i → (ent r k).Base = 0 ∨ ((ent r k).Who ≠ (ent r i).Who ∧ (ent r k).Base ≠ (ent r i).Base) := by
  unfold entOk
  simp only [h, decide_false, Bool.false_or, Bool.and_eq_true, allN_iff, Bool.or_eq_true, decide_eq_true_eq, Bool.not_eq_true', decide_eq_false_iff_not, ne_eq]
/-- Among right entries a seat is taken just if its entry isn't zero. -/
theorem entOk_base {r : Roster} {i : Nat} (h : entOk r i = true) : (ent r i).Base = 0 ↔ ent r i = zeroE := by
  constructor
  · intro hb
    by_cases hz : ent r i = zeroE
    · exact hz
    · have := goodE_iff.1 ((entOk_iff hz).1 h).1
      omega
  · intro hz; rw [hz]
theorem eq_roster_Check : Eqs c_roster_Check g_roster_Check := Eqs.tot fun (r, _) _ => by
  simp only [g_roster_Check]
  rw [lfp_allH (fun i => (((), (), r, (i : Int), ()), (), cmapP (fun j => !decide (ent r j = zeroE)) (fun j => (ent r j).Who) i, cmapP (fun j => !decide (ent r j = zeroE)) (fun j => (ent r j).Base) i, ())) 64 (entOk r) (.inl ((31, ()), (), ())) (.inr ((), (), ())) (by rfl)
    (fun i hi hj hok => by
      have h1 : (i : Int) < 64 := by omega
      simp only [g_roster_Check_r1, h1, decide_true, cond_true, Int.natCast_nonneg, Bool.and_self]
      by_cases hz : Arr.get r (i : Int) = zeroE
      · simp only [hz, decide_true, cond_true, wrap1 i (by omega), cmapP, ent, Bool.not_true, cond_false]
      · obtain ⟨hg, hn⟩ := (entOk_iff hz).1 hok
        have hp : (!decide (ent r i = zeroE)) = true := by simp [ent, hz]
        have c1 := cmapP_succ (fun j => !decide (ent r j = zeroE)) (fun j => (ent r j).Who) i (by omega) hp
        have c2 := cmapP_succ (fun j => !decide (ent r j = zeroE)) (fun j => (ent r j).Base) i (by omega) hp
        have hex : ∀ j, j < i → (!decide (ent r j = zeroE)) = true → (ent r j).Who ≠ (ent r i).Who ∧ (ent r j).Base ≠ (ent r i).Base := fun j hji hpj => by
          rcases hn j hji with h0 | h0
          · have := (entOk_base (hj j hji)).1 h0
            simp [this] at hpj
          · exact h0
        have t1 : ¬ 1 < (mget (cmapP (fun j => !decide (ent r j = zeroE)) (fun j => (ent r j).Who) (i + 1)) (ent r i).Who).getD 0 := fun h => (cmapP_twice (fun j => !decide (ent r j = zeroE)) (fun j => (ent r j).Who) i hp).1 h fun j hji hpj => (hex j hji hpj).1
        have t2 : ¬ 1 < (mget (cmapP (fun j => !decide (ent r j = zeroE)) (fun j => (ent r j).Base) (i + 1)) (ent r i).Base).getD 0 := fun h => (cmapP_twice (fun j => !decide (ent r j = zeroE)) (fun j => (ent r j).Base) i hp).1 h fun j hji hpj => (hex j hji hpj).2
        simp only [ent] at hg c1 c2 t1 t2 ⊢
        simp only [hz, decide_false, cond_false, hg, Bool.not_true]
        rw [c1, c2]
        simp only [t1, t2, decide_false, cond_false, wrap1 i (by omega)])
    (fun i hi hj hok => by
      have h1 : (i : Int) < 64 := by omega
      simp only [g_roster_Check_r1, h1, decide_true, cond_true, Int.natCast_nonneg, Bool.and_self]
      have hz : ¬ Arr.get r (i : Int) = zeroE := fun h => by rw [entOk_zero h] at hok; cases hok
      have hp : (!decide (ent r i = zeroE)) = true := by simp [ent, hz]
      have c1 := cmapP_succ (fun j => !decide (ent r j = zeroE)) (fun j => (ent r j).Who) i (by omega) hp
      have c2 := cmapP_succ (fun j => !decide (ent r j = zeroE)) (fun j => (ent r j).Base) i (by omega) hp
      have w1 := cmapP_twice (fun j => !decide (ent r j = zeroE)) (fun j => (ent r j).Who) i hp
      have w2 := cmapP_twice (fun j => !decide (ent r j = zeroE)) (fun j => (ent r j).Base) i hp
      simp only [hz, decide_false, cond_false]
      cases hg : goodE (Arr.get r (i : Int)) with
      | false => simp
      | true =>
        simp only [Bool.not_true, cond_false]
        simp only [ent] at c1 c2 w1 w2 ⊢
        rw [c1, c2]
        by_cases q1 : 1 < (mget (cmapP (fun j => !decide (Arr.get r (j : Int) = zeroE)) (fun j => (Arr.get r (j : Int)).Who) (i + 1)) (Arr.get r (i : Int)).Who).getD 0
        · simp only [q1, decide_true, cond_true]
        · by_cases q2 : 1 < (mget (cmapP (fun j => !decide (Arr.get r (j : Int) = zeroE)) (fun j => (Arr.get r (j : Int)).Base) (i + 1)) (Arr.get r (i : Int)).Base).getD 0
          · simp only [q1, q2, decide_true, decide_false, cond_true, cond_false]
          · exfalso
            have n1 := Classical.not_not.1 fun h => q1 (w1.2 h)
            have n2 := Classical.not_not.1 fun h => q2 (w2.2 h)
            have : entOk r i = true := (entOk_iff hz).2 ⟨hg, fun k hk => by
              by_cases hb : (ent r k).Base = 0
              · exact .inl hb
              · have hzk : (!decide (Arr.get r (k : Int) = zeroE)) = true := by
                  have : ¬ Arr.get r (k : Int) = zeroE := fun h => hb (by simp only [ent]; rw [h])
                  simp [this]
                exact .inr ⟨n1 k hk hzk, n2 k hk hzk⟩⟩
            rw [this] at hok; cases hok)
    (by simp [g_roster_Check_r1])]
  simp only [Option.bind_some, chkR, goodRoster]
  cases allN 64 (entOk r) <;> rfl
theorem eq_ref09_Check : Eqs c_ref09_Check g_ref09_Check := Eqs.tot fun (r, _) _ => by
  simp only [g_ref09_Check]
  have inner : ∀ v : Nat, v < 64 → lfp g_ref09_Check_r2 (((), (v : Int), 0, ()), (r, ()), ()) = some (bif allN v (fun k => decide ((ent r k).Base = 0) || (!decide ((ent r k).Who = (ent r v).Who) && !decide ((ent r k).Base = (ent r v).Base))) then .inr (((), (v : Int), ()), (r, ()), ()) else .inl ((31, ()), (), ())) := fun v hv =>
    lfp_all' (fun i => (((), (v : Int), (i : Int), ()), (r, ()), ())) v _ _ _ rfl
      (fun i hi hok => by
        have h1 : (i : Int) < v := by omega
        have h2 : (v : Int) < 64 := by omega
        have h3 : (i : Int) < 64 := by omega
        simp only [g_ref09_Check_r2, h1, h2, h3, decide_true, cond_true, Int.natCast_nonneg, Bool.and_self, wrap1 i (by omega)]
        by_cases hb : (Arr.get r (i : Int)).Base = 0
        · simp [hb]
        · have : ¬ (Arr.get r (i : Int)).Who = (Arr.get r (v : Int)).Who ∧ ¬ (Arr.get r (i : Int)).Base = (Arr.get r (v : Int)).Base := by simpa [ent, hb] using hok
          simp [hb, this.1, this.2])
      (fun i hi hok => by
        have h1 : (i : Int) < v := by omega
        have h2 : (v : Int) < 64 := by omega
        have h3 : (i : Int) < 64 := by omega
        simp only [g_ref09_Check_r2, h1, h2, h3, decide_true, cond_true, Int.natCast_nonneg, Bool.and_self]
        simp only [ent, Bool.or_eq_false_iff, decide_eq_false_iff_not] at hok
        simp only [hok.1, decide_false, Bool.not_false, cond_true]
        by_cases hw : (Arr.get r (i : Int)).Who = (Arr.get r (v : Int)).Who
        · simp [hw]
        · have : (Arr.get r (i : Int)).Base = (Arr.get r (v : Int)).Base := by
            have := hok.2; simpa [hw] using this
          simp [hw, this])
      (by simp [g_ref09_Check_r2])
  rw [lfp_all' (fun i => (((), (i : Int), ()), (r, ()), ())) 64 (entOk r) (.inl ((31, ()), (), ())) (.inr ((), (), ())) (by rfl)
    (fun i hi hok => by
      have h1 : (i : Int) < 64 := by omega
      simp only [g_ref09_Check_r1, h1, decide_true, cond_true, Int.natCast_nonneg, Bool.and_self, wrap1 i (by omega)]
      by_cases hz : Arr.get r (i : Int) = zeroE
      · simp only [hz, decide_true, cond_true]
      · have hin := inner i hi
        have hok' := hok
        unfold entOk at hok'
        simp only [hz, ent, decide_false, Bool.false_or, Bool.and_eq_true] at hok'
        simp only [ent] at hin
        rw [hok'.2] at hin
        simp only [hz, decide_false, cond_false, hok'.1, Bool.not_true, hin, cond_true, Option.bind_some, Sum.elim_inr, wrap1 i (by omega)])
    (fun i hi hok => by
      have h1 : (i : Int) < 64 := by omega
      have hz : ¬ Arr.get r (i : Int) = zeroE := fun h => by rw [entOk_zero h] at hok; cases hok
      simp only [g_ref09_Check_r1, h1, decide_true, cond_true, Int.natCast_nonneg, Bool.and_self, hz, decide_false, cond_false]
      cases hg : goodE (Arr.get r (i : Int)) with
      | false => simp
      | true =>
        have hin := inner i hi
        unfold entOk at hok
        simp only [hz, ent, decide_false, Bool.false_or, hg, Bool.true_and] at hok
        simp only [ent] at hin
        rw [hok] at hin
        simp only [Bool.not_true, cond_false, hin, Option.bind_some, Sum.elim_inl])
    (by simp [g_ref09_Check_r1])]
  simp only [Option.bind_some, chkR, goodRoster]
  cases allN 64 (entOk r) <;> rfl
theorem eq_roster_Taken : Eqs c_roster_Taken g_roster_Taken := Eqs.tot fun (r, _) _ => by
  simp only [g_roster_Taken]
  rw [lfp_run' (fun i => ((((word (isOn r) i : Nat) : Int), r, (i : Int), ()), (), ())) 64 (by rfl) fun i hi => by
    have h1 : (i : Int) < 64 := by omega
    simp only [g_roster_Taken_r1, h1, decide_true, cond_true, Int.natCast_nonneg, Bool.and_self, wrap1 i (by omega), word_or (isOn r) i hi, word]
    by_cases hb : (Arr.get r (i : Int)).Base = 0
    · simp [isOn, ent, hb]
    · simp [isOn, ent, hb]]
  rw [lfp_inr (z := ((((word (isOn r) 64 : Nat) : Int), ()), (), ())) (by simp [g_roster_Taken_r1])]
  rfl
theorem find_case {A B : Type} (r : Roster) (who : Int) (E : Nat → A) (z : A) (f : A → B) (g : Int → B) (h1 : ∀ i, f (E i) = g i) (h2 : f z = g (-1)) :
    f (match fstN 64 (fun s => isOn r s && decide ((ent r s).Who = who)) 0 with | some i => E i | none => z) = g (findR r who) := by
  unfold findR
  cases fstN 64 (fun s => isOn r s && decide ((ent r s).Who = who)) 0 <;> simp [h1, h2]
theorem eq_roster_Find : Eqs c_roster_Find g_roster_Find := Eqs.tot fun (r, who, _) _ => by
  change Int at who
  simp only [g_roster_Find]
  rw [lfp_find' (fun i => (((), (), 64, (i : Int), ()), (r, who, ()), ())) 64 (fun s => isOn r s && decide ((ent r s).Who = who)) (fun i => Sum.inl (((i : Int), ()), (), ())) (.inr ((), (), ())) (by rfl)
    (fun i hi hb => by
      have h1 : (i : Int) < 64 := by omega
      simp only [g_roster_Find_r1, h1, decide_true, cond_true, Int.natCast_nonneg, Bool.and_self, wrap1 i (by omega)]
      by_cases hb0 : (Arr.get r (i : Int)).Base = 0
      · simp [hb0]
      · have : ¬ (Arr.get r (i : Int)).Who = who := by simpa [isOn, ent, hb0] using hb
        simp [hb0, this])
    (fun i hi hb => by
      have h1 : (i : Int) < 64 := by omega
      have hb : ¬ (Arr.get r (i : Int)).Base = 0 ∧ (Arr.get r (i : Int)).Who = who := by simpa [isOn, ent] using hb
      simp [g_roster_Find_r1, h1, hb.1, hb.2])
    (by simp [g_roster_Find_r1])]
  simp only [Option.bind_some]
  exact find_case r who _ _ (fun z => Sum.elim (fun x : (Int × Unit) × Unit × Unit => some (x.1.1, ())) (fun _ => some (-1, ())) z) (fun n => some (n, ())) (fun _ => rfl) rfl
theorem eq_ref09_Find : Eqs c_ref09_Find g_ref09_Find := Eqs.tot fun (r, who, _) _ => by
  change Int at who
  simp only [g_ref09_Find]
  rw [lfp_find' (fun i => ((who, (), (i : Int), ()), (r, ()), ())) 64 (fun s => isOn r s && decide ((ent r s).Who = who)) (fun i => Sum.inl (((i : Int), ()), (), ())) (.inr ((), (), ())) (by rfl)
    (fun i hi hb => by
      have h1 : (i : Int) < 64 := by omega
      simp only [g_ref09_Find_r1, h1, decide_true, cond_true, Int.natCast_nonneg, Bool.and_self, wrap1 i (by omega)]
      by_cases hb0 : (Arr.get r (i : Int)).Base = 0
      · simp [hb0]
      · have : ¬ (Arr.get r (i : Int)).Who = who := by simpa [isOn, ent, hb0] using hb
        simp [hb0, this])
    (fun i hi hb => by
      have h1 : (i : Int) < 64 := by omega
      have hb : ¬ (Arr.get r (i : Int)).Base = 0 ∧ (Arr.get r (i : Int)).Who = who := by simpa [isOn, ent] using hb
      simp [g_ref09_Find_r1, h1, hb.1, hb.2])
    (by simp [g_ref09_Find_r1])]
  simp only [Option.bind_some]
  exact find_case r who _ _ (fun z => Sum.elim (fun x : (Int × Unit) × Unit × Unit => some (x.1.1, ())) (fun _ => some (-1, ())) z) (fun n => some (n, ())) (fun _ => rfl) rfl
theorem findR_some {r : Roster} {who : Int} (h : 0 ≤ findR r who) : ∃ s : Nat, s < 64 ∧ findR r who = s ∧ isOn r s = true ∧ (ent r s).Who = who ∧ ∀ k, k < s → ¬ (isOn r k = true ∧ (ent r k).Who = who) := by
  unfold findR at h ⊢
  cases hf : fstN 64 (fun s => isOn r s && decide ((ent r s).Who = who)) 0 with
  | none => rw [hf] at h; simp at h
  | some s =>
    obtain ⟨_, h2, h3, h4⟩ := fstN_some hf
    simp only [Bool.and_eq_true, decide_eq_true_eq] at h3
    refine ⟨s, by omega, rfl, h3.1, h3.2, fun k hk hc => ?_⟩
    have := h4 k (by omega) hk
    simp [hc.1, hc.2] at this
theorem findR_none {r : Roster} {who : Int} (h : ¬ 0 ≤ findR r who) : findR r who = -1 ∧ ∀ s : Nat, s < 64 → isOn r s = true → (ent r s).Who ≠ who := by
  unfold findR at h ⊢
  cases hf : fstN 64 (fun s => isOn r s && decide ((ent r s).Who = who)) 0 with
  | some s => rw [hf] at h; simp at h
  | none =>
    refine ⟨rfl, fun s hs hon hw => ?_⟩
    have := fstN_none hf s (by omega) (by omega)
    simp [hon, hw] at this
theorem findR_lt (r : Roster) (who : Int) : findR r who < 64 := by
  by_cases h : 0 ≤ findR r who
  · obtain ⟨s, hs, he, _⟩ := findR_some h; omega
  · omega
end Go.Co.N
