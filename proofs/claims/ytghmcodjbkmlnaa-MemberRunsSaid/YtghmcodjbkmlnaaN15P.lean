/-
  Members: the functions answer what they are to answer.
  Own text, for the claims about coterie. No program in sight.
-/
import Derived.Test.YtghmcodjbkmlnaaN15G
import Derived.Test.YtghmcodjbkmlnaaN17L
namespace Go.Co.N
open Go Go.Co

/-! ### Keys -/
theorem eq_key_Gives : Eqs c_key_Gives g_key_Gives := Eqs.tot fun (a, b, _) _ => by
  change Key at a b
  simp only [g_key_Gives, gives]
  cases good a <;> cases good b <;> cases decide (a.Base = b.Base) <;> rfl
theorem eq_key_Open : Eqs c_key_Open g_key_Open := Eqs.tot fun (b, k, _) _ => by
  change Box at b
  change Key at k
  simp only [g_key_Open, openB, goodBox]
  cases good b.Under <;> cases good b.Load <;> cases good k <;> cases gives k b.Under <;> rfl

/-! ### Masks -/
theorem bw_or32 (n m : Nat) (hn : n < 4294967296) (hm : m < 4294967296) : bw .or .u32 (n : Int) (m : Int) = ((n ||| m : Nat) : Int) := by
  have e1 : BitVec.ofInt IntKind.u32.bits (n : Int) = BitVec.ofNat 32 n := by simp [IntKind.bits]
  have e2 : BitVec.ofInt IntKind.u32.bits (m : Int) = BitVec.ofNat 32 m := by simp [IntKind.bits]
  have hle : n ||| m < 4294967296 := Nat.or_lt_two_pow (n := 32) hn hm
  unfold bw
  simp only [e1, e2]
  have e3 : (BitVec.ofNat 32 n ||| BitVec.ofNat 32 m).toNat = n ||| m := by
    simp [BitVec.toNat_or, Nat.mod_eq_of_lt hn, Nat.mod_eq_of_lt hm]
  show IntKind.u32.wrap (((BitVec.ofNat 32 n ||| BitVec.ofNat 32 m).toNat : Nat) : Int) = _
  rw [e3, Go.IntWalk.u32_in _ (by omega)]
theorem word_up32 (p : Nat → Bool) {n : Nat} (h : n ≤ 32) : word p n < 4294967296 := Nat.lt_of_lt_of_le (word_lt p n) (Nat.pow_le_pow_right (by omega) h : 2 ^ n ≤ 2 ^ 32)
theorem shl_one32 (i : Nat) (h : i < 32) : shlI .u32 1 (IntKind.u64.wrap (i : Int)) = ((2 ^ i : Nat) : Int) := by
  rw [Go.IntWalk.u64_in _ (by omega)]
  unfold shlI
  have : min (Int.toNat (i : Int)) IntKind.u32.bits = i := by simp [IntKind.bits]; omega
  rw [this, Int.one_mul]
  have h2 : (2 : Nat) ^ i < 2 ^ 32 := Nat.pow_lt_pow_right (by omega) h
  have h3 : ((2 : Int) ^ i) = ((2 ^ i : Nat) : Int) := by simp
  rw [h3]
  generalize 2 ^ i = x at h2
  exact Go.IntWalk.u32_in _ (by omega)
theorem word_or32 (p : Nat → Bool) (i : Nat) (h : i < 32) : bw .or .u32 (word p i : Nat) (shlI .u32 1 (IntKind.u64.wrap (i : Int))) = ((word p i + 2 ^ i : Nat) : Int) := by
  have h2 : (2 : Nat) ^ i < 2 ^ 32 := Nat.pow_lt_pow_right (by omega) h
  rw [shl_one32 i h, bw_or32 _ _ (word_up32 p (by omega)) h2]
  congr 1
  rw [Nat.or_comm, Nat.add_comm, show 2 ^ i + word p i = 2 ^ i * 1 + word p i by omega, Nat.two_pow_add_eq_or_of_lt (word_lt p i), Nat.mul_one]
theorem eq_shape_Above : Eqs c_shape_Above g_shape_Above := Eqs.tot fun (s, _) _ => by
  change Int at s
  simp only [g_shape_Above]
  rw [lfp_run' (fun i => ((s, ((word (fun v => !decide (bw .and .u64 (mask v) s = 0)) i : Nat) : Int), (i : Int), ()), (), ())) 21 (by rfl) fun i hi => by
    have h1 : (i : Int) < 21 := by omega
    simp only [g_shape_Above_r1, h1, decide_true, cond_true, wrap1 i (by omega), word_or32 _ i (by omega : i < 32), word]
    cases decide (bw .and .u64 (mask (i : Int)) s = 0) <;> rfl]
  rw [lfp_inr (z := ((((word (fun v => !decide (bw .and .u64 (mask v) s = 0)) 21 : Nat) : Int), ()), (), ())) (by simp [g_shape_Above_r1])]
  rfl
theorem word_or_word (p q : Nat → Bool) : bw .or .u64 (word p 64 : Nat) (word q 64 : Nat) = ((word (fun i => p i || q i) 64 : Nat) : Int) := by
  rw [bw_or64 _ _ (word_64 p) (word_64 q)]
  congr 1
  apply Nat.eq_of_testBit_eq
  intro i
  rw [Nat.testBit_or, word_bit, word_bit, word_bit]
  cases decide (i < 64) <;> cases p i <;> cases q i <;> rfl
/-- The slots of these seats. -/
def slotsB (l : List Co.Seat) (i : Nat) : Bool := l.any fun s => below (leaf s.Slot) (leaf i)
theorem mask_leaf (s : Int) : mask (leaf s) = ((word (fun i => below (leaf s) (leaf i)) 64 : Nat) : Int) := rfl
theorem word_nil : word (slotsB []) 64 = 0 := by decide +kernel
theorem slotsB_app (l : List Co.Seat) (s : Co.Seat) : (fun i => slotsB l i || below (leaf s.Slot) (leaf (i : Int))) = slotsB (l ++ [s]) := by
  funext i; simp [slotsB]
theorem seats_mask {Z : Type} (fin : Int → Z) : ∀ (l acc : List Co.Seat), foldE (fun (a : Int) (s : Co.Seat) => (Sum.inl (bw .or .u64 a (mask (leaf s.Slot))) : Int ⊕ Z)) fin l ((word (slotsB acc) 64 : Nat) : Int) = fin ((word (slotsB (acc ++ l)) 64 : Nat) : Int)
  | [], acc => by simp [foldE]
  | s :: l, acc => by
    simp only [foldE]
    rw [mask_leaf, word_or_word, slotsB_app, seats_mask fin l]
    simp
theorem leaf_below : allN 64 (fun k => allN 64 fun i => decide (below (leaf k) (leaf i) = decide (k = i))) = true := by decide +kernel
theorem below_leaf_slot (v : Nat) (s : Int) : below (v : Int) (leaf s) = anyN 64 fun i => below v (leaf i) && below (leaf s) (leaf i) := by
  by_cases h : 0 ≤ s ∧ s < 64
  · obtain ⟨k, rfl⟩ := Int.eq_ofNat_of_zero_le h.1
    have hk : k < 64 := by omega
    have hkb := allN_iff.1 leaf_below k hk
    refine bool_eq ?_
    rw [anyN_iff]
    constructor
    · intro hb
      have := allN_iff.1 hkb k hk
      simp only [decide_eq_true_eq] at this
      exact ⟨k, hk, by rw [hb, this]; simp⟩
    · rintro ⟨i, hi, hb⟩
      simp only [Bool.and_eq_true] at hb
      have := allN_iff.1 hkb i hi
      simp only [decide_eq_true_eq] at this
      rw [this] at hb
      have hki : k = i := by simpa using hb.2
      subst hki; exact hb.1
  · have : leaf s = -1 := by unfold leaf; rw [if_neg h]
    rw [this]
    have h0 : below (v : Int) (-1) = false := by simp [below, node]
    have h1 : ∀ w, below (-1) w = false := fun w => by simp [below, node]
    rw [h0]; exact (anyN_false.2 fun i _ => by rw [h1]; simp).symm
theorem above_slots (l : List Co.Seat) : aboveM ((word (slotsB l) 64 : Nat) : Int) = replaced l := by
  unfold aboveM
  rw [replaced_eq]
  congr 1
  refine word_congr 21 fun v _ => ?_
  rw [show mask (v : Int) = ((word (fun i => below v (leaf i)) 64 : Nat) : Int) from rfl, word_and]
  have e : decide (((word (fun i => below v (leaf i) && slotsB l i) 64 : Nat) : Int) = 0) = decide (word (fun i => below v (leaf i) && slotsB l i) 64 = 0) := by congr 1; simp
  rw [e]
  refine bool_eq ?_
  simp only [Bool.not_eq_true', decide_eq_false_iff_not, word_0]
  unfold hitB slotsB
  rw [List.any_eq_true]
  constructor
  · intro h
    have : ∃ i : Nat, i < 64 ∧ (below v (leaf i) && l.any fun s => below (leaf s.Slot) (leaf i)) = true := by
      apply Classical.byContradiction
      intro hn
      exact h fun i hi => Bool.eq_false_iff.2 fun hb => hn ⟨i, hi, hb⟩
    obtain ⟨i, hi, hb⟩ := this
    simp only [Bool.and_eq_true, List.any_eq_true] at hb
    obtain ⟨h1, s, hs, h2⟩ := hb
    exact ⟨s, hs, by rw [below_leaf_slot]; exact anyN_iff.2 ⟨i, hi, by rw [h1, h2]; rfl⟩⟩
  · rintro ⟨s, hs, hb⟩ h
    rw [below_leaf_slot] at hb
    obtain ⟨i, hi, h2⟩ := anyN_iff.1 hb
    simp only [Bool.and_eq_true] at h2
    have := h i hi
    simp only [Bool.and_eq_false_iff, List.any_eq_false] at this
    rcases this with h3 | h3
    · rw [h2.1] at h3; cases h3
    · exact h3 s hs h2.2
theorem eq_plan_Replaced : Eqs c_plan_Replaced g_plan_Replaced := Eqs.tot fun (l, _) hf => by
  have hlen : List.length (l : List Co.Seat) * 16 ≤ 140737488355328 := fine_seat_list hf.1
  simp only [g_plan_Replaced]
  have h := lfp_list (f := g_plan_Replaced_r1) (l : List Co.Seat) (fun i (a : Int) => ((a, (l : List Co.Seat), (List.length (l : List Co.Seat) : Int), (i : Int), ()), (), ()))
    (fun a s => Sum.inl (bw .or .u64 a (mask (leaf s.Slot)))) (fun _ _ _ => True) (fun a => ((a, ()), (), ()))
    (fun i x rest a _ hi hx _ => by
      refine ⟨fun _ _ => trivial, ?_⟩
      have g1 : (i : Int) < (List.length (l : List Co.Seat) : Int) := by omega
      simp only [g_plan_Replaced_r1, g1, hx, decide_true, cond_true, Int.natCast_nonneg, Bool.and_self, wrap1' hi (by omega)])
    (fun a _ => by simp [g_plan_Replaced_r1]) l 0 0 rfl (by omega) trivial
  have h2 := seats_mask (fun a => ((a, ()), (), ())) (l : List Co.Seat) []
  rw [word_nil] at h2
  rw [show ((0 : Nat) : Int) = 0 from rfl] at h2
  rw [h2] at h
  rw [show lfp g_plan_Replaced_r1 ((0, (l : List Co.Seat), (List.length (l : List Co.Seat) : Int), 0, ()), (), ()) = _ from h]
  simp only [Option.bind_some, List.nil_append, above_slots]

/-! ### Members -/
theorem eq_member_Restart : Eqs c_member_Restart g_member_Restart := Eqs.tot fun (_, _) _ => rfl
theorem eq_member_Seated : Eqs c_member_Seated g_member_Seated := Eqs.tot fun (c, _) _ => by
  change Card at c
  simp only [g_member_Seated, seated]
  cases goodCard c <;> rfl
theorem eq_ref15_Seated : Eqs c_ref15_Seated g_ref15_Seated := Eqs.tot fun (c, _) _ => by
  change Card at c
  simp only [g_ref15_Seated, seated]
  cases goodCard c <;> rfl
theorem fstN_find {α : Type} [Inhabited α] (p : α → Bool) (l : List α) : ∀ (d i : Nat), i + d = l.length → (fstN d (fun j => p (lat l (j : Int))) i).map (fun (j : Nat) => lat l (j : Int)) = (l.drop i).find? p
  | 0, i, h => by
    rw [List.drop_eq_nil_of_le (by omega)]; rfl
  | d + 1, i, h => by
    have hi : i < l.length := by omega
    rw [List.drop_eq_getElem_cons hi]
    simp only [fstN, List.find?_cons, lat_nat l i hi]
    cases hp : p l[i] with
    | true => simp [lat_nat l i hi]
    | false => simp only [Bool.false_eq_true, if_false]; exact fstN_find p l d (i + 1) (by omega)
theorem fstN_find0 {α : Type} [Inhabited α] (p : α → Bool) (l : List α) : (fstN l.length (fun j => p (lat l (j : Int))) 0).map (fun (j : Nat) => lat l (j : Int)) = l.find? p := by
  have := fstN_find p l l.length 0 (by omega)
  simpa using this
theorem fstN_any {α : Type} [Inhabited α] (p : α → Bool) (l : List α) : (fstN l.length (fun j => p (lat l (j : Int))) 0).isSome = l.any p := by
  have h := fstN_find0 p l
  have h2 : (l.find? p).isSome = l.any p := bool_eq (by rw [List.find?_isSome, List.any_eq_true])
  rw [← h2, ← h, Option.isSome_map]
theorem eq_member_find : Eqs c_member_find g_member_find := Eqs.tot fun (r, v, fr, _) hf => by
  change Rekey at r
  change Int at v fr
  have hl := (fine_rekey (r := r) hf.1).2.2
  simp only [g_member_find]
  rw [lfp_find' (fun i => ((r.Items, (), (r.Items.length : Int), (i : Int), ()), (r, v, fr, St.zero St.box, ()), ())) r.Items.length (fun i => (fun x : Co.Item => decide (x.Node = v) && decide (x.From = fr)) (lat r.Items (i : Int))) (fun i => Sum.inl (((i : Int), ()), (r, v, fr, St.zero St.box, ()), ())) (.inr ((), (r, v, fr, St.zero St.box, ()), ())) (by rfl)
    (fun i hi hb => by
      have h1 : (i : Int) < (r.Items.length : Int) := by omega
      simp only [g_member_find_r1, h1, decide_true, cond_true, Int.natCast_nonneg, Bool.and_self, wrap1' hi (by omega)]
      cases hn : decide ((lat r.Items (i : Int)).Node = v) with
      | false => rfl
      | true =>
        have : decide ((lat r.Items (i : Int)).From = fr) = false := by simpa [hn] using hb
        rw [this]; rfl)
    (fun i hi hb => by
      have h1 : (i : Int) < (r.Items.length : Int) := by omega
      simp only [Bool.and_eq_true] at hb
      simp only [g_member_find_r1, h1, decide_true, cond_true, Int.natCast_nonneg, Bool.and_self, hb.1, hb.2])
    (by simp [g_member_find_r1])]
  have hfi := fstN_find0 (fun x : Co.Item => decide (x.Node = v) && decide (x.From = fr)) r.Items
  simp only [Option.bind_some]
  cases hx : fstN r.Items.length (fun i => (fun x : Co.Item => decide (x.Node = v) && decide (x.From = fr)) (lat r.Items (i : Int))) 0 with
  | none =>
    rw [hx] at hfi
    have : firstB r v fr = none := hfi.symm
    rw [this]; rfl
  | some i =>
    rw [hx] at hfi
    have : firstB r v fr = some (lat r.Items (i : Int)) := hfi.symm
    obtain ⟨_, hi, _, _⟩ := fstN_some hx
    have h1 : (i : Int) < (r.Items.length : Int) := by omega
    have h0 : ¬ (i : Int) < 0 := by omega
    rw [this]
    simp only [Sum.elim_inl, h0, h1, decide_false, decide_true, cond_false, cond_true, Int.natCast_nonneg, Bool.and_self]
    rfl
theorem eq_member_open : Eqs c_member_open g_member_open := Eqs.tot fun (r, v, fr, k, _) _ => by
  change Rekey at r
  change Int at v fr
  change Key at k
  simp only [g_member_open, openI]
  cases firstB r v fr <;> rfl
def putP (m : Member) (p : Path) : Member := ⟨m.Who, m.Slot, m.Epoch, m.Leaf, p, m.Has, m.Out, m.Behind⟩
theorem enter_loop (m z : Member) (r : Rekey) : ∀ (d i : Nat) (p : Path) (b : Int) (k : Key), i + d = 3 →
    lfp g_member_enter_r1 (((), (), (), leaf m.Slot, b, (), pathG m.Slot, (i : Int), ()), (putP m p, r, z, k, ()), ()) =
      some (bif decide ((upP (enterStep m r) m.Slot d i p b k).2 = 0) then .inr (((), (), ()), (putP m (upP (enterStep m r) m.Slot d i p b k).1, z, ()), ()) else .inl (((), (upP (enterStep m r) m.Slot d i p b k).2, ()), (putP m (upP (enterStep m r) m.Slot d i p b k).1, ()), ()))
  | 0, i, p, b, k, h => by
    have : i = 3 := by omega
    subst this
    rw [lfp_inr (z := .inr (((), (), ()), (putP m p, z, ()), ())) (by simp [g_member_enter_r1])]
    rfl
  | d + 1, i, p, b, k, h => by
    have h1 : (i : Int) < 3 := by omega
    have hst : enterStep m r p (i : Int) b k = bif decide ((openI r (Arr.get (pathG m.Slot) (i : Int)) (leaf m.Slot) m.Leaf).2 = 23) then openI r (Arr.get (pathG m.Slot) (i : Int)) b k else openI r (Arr.get (pathG m.Slot) (i : Int)) (leaf m.Slot) m.Leaf := rfl
    have hst2 : g_member_enter_r1 (((), (), (), leaf m.Slot, b, (), pathG m.Slot, (i : Int), ()), (putP m p, r, z, k, ()), ()) = some (bif decide ((enterStep m r p (i : Int) b k).2 = 0) then .inl (((), (), (), leaf m.Slot, Arr.get (pathG m.Slot) (i : Int), (), pathG m.Slot, ((i + 1 : Nat) : Int), ()), (putP m (Arr.put p (i : Int) (enterStep m r p (i : Int) b k).1), r, z, (enterStep m r p (i : Int) b k).1, ()), ()) else .inr (.inl (((), (enterStep m r p (i : Int) b k).2, ()), (putP m p, ()), ()))) := by
      rw [hst]
      simp only [g_member_enter_r1, h1, decide_true, cond_true, Int.natCast_nonneg, Bool.and_self, wrap1 i (by omega), putP]
      by_cases h23 : (openI r (Arr.get (pathG m.Slot) (i : Int)) (leaf m.Slot) m.Leaf).2 = 23
      · simp only [h23, decide_true, cond_true]
        by_cases h0 : (openI r (Arr.get (pathG m.Slot) (i : Int)) b k).2 = 0
        · simp only [h0, decide_true, cond_true, Bool.not_true, cond_false]
        · simp only [h0, decide_false, cond_true, Bool.not_false, cond_false]
      · simp only [h23, decide_false, cond_false]
        by_cases h0 : (openI r (Arr.get (pathG m.Slot) (i : Int)) (leaf m.Slot) m.Leaf).2 = 0
        · simp only [h0, decide_true, cond_true, Bool.not_true, cond_false]
        · simp only [h0, decide_false, cond_true, Bool.not_false, cond_false]
    cases h0 : decide ((enterStep m r p (i : Int) b k).2 = 0) with
    | true =>
      rw [h0] at hst2
      rw [lfp_inl hst2, enter_loop m z r d (i + 1) _ _ _ (by omega)]
      simp only [upP, h0, cond_true]
    | false =>
      rw [h0] at hst2
      rw [lfp_inr hst2]
      simp only [upP, h0, cond_false]
theorem eq_member_enter : Eqs c_member_enter g_member_enter := Eqs.tot fun (m, r, _) _ => by
  change Member at m
  change Rekey at r
  simp only [g_member_enter]
  have h := enter_loop m (St.zero St.member) r 3 0 m.Path (leaf m.Slot) m.Leaf rfl
  rw [show lfp g_member_enter_r1 (((), (), (), leaf m.Slot, leaf m.Slot, (), bif decide (0 ≤ leaf m.Slot) then pathN m.Slot else zero3, 0, ()), (m, r, St.zero St.member, m.Leaf, ()), ()) = _ from h]
  simp only [Option.bind_some, enterM]
  cases h0 : decide ((upP (enterStep m r) m.Slot 3 0 m.Path (leaf m.Slot) m.Leaf).2 = 0) with
  | true =>
    simp only [decide_eq_true_eq] at h0
    simp only [cond_true, Sum.elim_inr, putP, h0]
  | false => simp only [cond_false, Sum.elim_inl, putP]
theorem pathG_in (s : Int) (i : Nat) (hi : i < 3) : 0 ≤ Arr.get (pathG s) (i : Int) ∧ Arr.get (pathG s) (i : Int) < 21 := by
  unfold pathG
  by_cases h : 0 ≤ leaf s
  · obtain ⟨h0, h1⟩ := leaf_pos.1 h
    rw [decide_eq_true h]
    simp only [cond_true]
    rw [pathN_get s i hi]; exact pathAt_in h0 h1 i
  · rw [decide_eq_false h]
    simp only [cond_false]
    rw [get_rep _ _ (by omega) (by omega)]; omega
theorem replaced_in (l : List Co.Seat) : 0 ≤ replaced l ∧ replaced l < 2097152 := by
  rw [replaced_eq]
  have := word_lt (hitB l) 21
  omega
theorem follow_loop (m z : Member) (r : Rekey) : ∀ (d i : Nat) (p : Path) (b : Int) (k : Key), i + d = 3 →
    lfp g_member_follow_r1 (((), (), (), replaced r.Leaves, (), b, pathG m.Slot, (i : Int), ()), (putP m p, r, z, k, ()), ()) =
      some (bif decide ((upP (followStep m r) m.Slot d i p b k).2 = 0) then .inr (((), (), ()), (putP m (upP (followStep m r) m.Slot d i p b k).1, z, ()), ()) else .inl (((), (upP (followStep m r) m.Slot d i p b k).2, ()), (putP m (upP (followStep m r) m.Slot d i p b k).1, ()), ()))
  | 0, i, p, b, k, h => by
    have : i = 3 := by omega
    subst this
    rw [lfp_inr (z := .inr (((), (), ()), (putP m p, z, ()), ())) (by simp [g_member_follow_r1])]
    rfl
  | d + 1, i, p, b, k, h => by
    have h1 : (i : Int) < 3 := by omega
    have hst : followStep m r p (i : Int) b k = bif inB (replaced r.Leaves) (Arr.get (pathG m.Slot) (i : Int)) then openI r (Arr.get (pathG m.Slot) (i : Int)) b k else ahead (Arr.get p (i : Int)) 1 := rfl
    have hp := pathG_in m.Slot i (by omega)
    have hr := replaced_in r.Leaves
    have hbit := bit_in' (replaced r.Leaves) (Arr.get (pathG m.Slot) (i : Int)) hr.1 (by omega) hp.1 (by omega)
    have hst2 : g_member_follow_r1 (((), (), (), replaced r.Leaves, (), b, pathG m.Slot, (i : Int), ()), (putP m p, r, z, k, ()), ()) = some (bif decide ((followStep m r p (i : Int) b k).2 = 0) then .inl (((), (), (), replaced r.Leaves, (), Arr.get (pathG m.Slot) (i : Int), pathG m.Slot, ((i + 1 : Nat) : Int), ()), (putP m (Arr.put p (i : Int) (followStep m r p (i : Int) b k).1), r, z, (followStep m r p (i : Int) b k).1, ()), ()) else .inr (.inl (((), (followStep m r p (i : Int) b k).2, ()), (putP m p, ()), ()))) := by
      rw [hst]
      simp only [g_member_follow_r1, h1, decide_true, cond_true, Int.natCast_nonneg, Bool.and_self, wrap1 i (by omega), putP, hbit]
      cases inB (replaced r.Leaves) (Arr.get (pathG m.Slot) (i : Int)) with
      | true =>
        simp only [cond_true]
        by_cases h0 : (openI r (Arr.get (pathG m.Slot) (i : Int)) b k).2 = 0
        · simp only [h0, decide_true, cond_true, Bool.not_true, cond_false]
        · simp only [h0, decide_false, cond_true, Bool.not_false, cond_false]
      | false =>
        simp only [cond_false]
        by_cases h0 : (ahead (Arr.get p (i : Int)) 1).2 = 0
        · simp only [h0, decide_true, cond_true, Bool.not_true, cond_false]
        · simp only [h0, decide_false, cond_true, Bool.not_false, cond_false]
    cases h0 : decide ((followStep m r p (i : Int) b k).2 = 0) with
    | true =>
      rw [h0] at hst2
      rw [lfp_inl hst2, follow_loop m z r d (i + 1) _ _ _ (by omega)]
      simp only [upP, h0, cond_true]
    | false =>
      rw [h0] at hst2
      rw [lfp_inr hst2]
      simp only [upP, h0, cond_false]
theorem eq_member_follow : Eqs c_member_follow g_member_follow := Eqs.tot fun (m, r, _) _ => by
  change Member at m
  change Rekey at r
  simp only [g_member_follow, followM]
  cases ha : decide ((ahead m.Leaf 1).2 = 0) with
  | false => rfl
  | true =>
    have h := follow_loop ⟨m.Who, m.Slot, r.Epoch, (ahead m.Leaf 1).1, m.Path, m.Has, m.Out, m.Behind⟩ (St.zero St.member) r 3 0 m.Path (leaf m.Slot) (ahead m.Leaf 1).1 rfl
    have hfs : followStep ⟨m.Who, m.Slot, r.Epoch, (ahead m.Leaf 1).1, m.Path, m.Has, m.Out, m.Behind⟩ r = followStep m r := rfl
    rw [hfs] at h
    rw [show lfp g_member_follow_r1 (((), (), (), replaced r.Leaves, (), leaf m.Slot, bif decide (0 ≤ leaf m.Slot) then pathN m.Slot else zero3, 0, ()), (Member.mk m.Who m.Slot r.Epoch (ahead m.Leaf 1).1 m.Path m.Has m.Out m.Behind, r, St.zero St.member, (ahead m.Leaf 1).1, ()), ()) = _ from h]
    simp only [Option.bind_some, Bool.not_true, cond_false, cond_true]
    cases h0 : decide ((upP (followStep m r) m.Slot 3 0 m.Path (leaf m.Slot) (ahead m.Leaf 1).1).2 = 0) with
    | true =>
      simp only [decide_eq_true_eq] at h0
      simp only [cond_true, Sum.elim_inr, putP, h0]
    | false => simp only [cond_false, Sum.elim_inl, putP]
