/-
  Moves: the reference's function answers what it is to answer.
  Own text, for the claims about coterie. No program in sight.
-/
import Derived.Test.YtghmcodjbkmlnaaN12P
namespace Go.Co.N
open Go Go.Co

/-! ### Counting -/
def cntP (p : Nat → Bool) : Nat → Nat
  | 0 => 0
  | n + 1 => cntP p n + (bif p n then 1 else 0)
theorem cntP_congr {p q : Nat → Bool} : ∀ n, (∀ i, i < n → p i = q i) → cntP p n = cntP q n
  | 0, _ => rfl
  | n + 1, h => by simp only [cntP]; rw [cntP_congr n fun i hi => h i (by omega), h n (by omega)]
theorem cntP_le (p : Nat → Bool) : ∀ n, cntP p n ≤ n
  | 0 => Nat.le_refl _
  | n + 1 => by have := cntP_le p n; simp only [cntP]; cases p n <;> simp <;> omega
theorem cntP_not (p : Nat → Bool) : ∀ n, cntP p n + cntP (fun i => !p i) n = n
  | 0 => rfl
  | n + 1 => by have := cntP_not p n; simp only [cntP]; cases p n <;> simp <;> omega
theorem cntP_change {p q : Nat → Bool} (s : Nat) : ∀ n, (∀ i, i < n → i ≠ s → p i = q i) → cntP p n ≤ cntP q n + 1
  | 0, _ => by simp [cntP]
  | n + 1, h => by
    simp only [cntP]
    by_cases hs : n = s
    · rw [cntP_congr n fun i hi => h i (by omega) (by omega)]
      cases p n <;> cases q n <;> simp <;> omega
    · rw [h n (by omega) hs]
      have := cntP_change s n fun i hi hne => h i (by omega) hne
      cases q n <;> simp <;> omega
theorem cntP_up {p q : Nat → Bool} (s : Nat) (hp : p s = false) (hq : q s = true) : ∀ n, s < n → (∀ i, i < n → i ≠ s → p i = q i) → cntP q n = cntP p n + 1
  | 0, h, _ => by omega
  | n + 1, hs, h => by
    simp only [cntP]
    by_cases he : n = s
    · subst he
      rw [cntP_congr n fun i hi => h i (by omega) (by omega), hp, hq]; simp
    · rw [h n (by omega) he, cntP_up s hp hq n (by omega) fun i hi hne => h i (by omega) hne]
      omega
theorem cntP_pos {p : Nat → Bool} : ∀ n, 0 < cntP p n → ∃ i, i < n ∧ p i = true
  | 0, h => by simp [cntP] at h
  | n + 1, h => by
    simp only [cntP] at h
    cases hp : p n with
    | true => exact ⟨n, by omega, hp⟩
    | false =>
      rw [hp] at h
      obtain ⟨i, hi, hpi⟩ := cntP_pos n (by simpa using h)
      exact ⟨i, by omega, hpi⟩
theorem filter_cnt (p : Nat → Bool) : ∀ n, ((List.range n).filter p).length = cntP p n
  | 0 => rfl
  | n + 1 => by
    rw [List.range_succ, List.filter_append, List.length_append, filter_cnt p n]
    simp only [cntP]
    cases hp : p n <;> simp [hp]
theorem bitI_word (p : Nat → Bool) (n i : Nat) : bitI ((word p n : Nat) : Int) i = (decide (i < n) && p i) := by
  rw [← word_bit p n i]
  unfold bitI
  rw [Nat.testBit_eq_decide_div_mod_eq]
  congr 1
  rw [show (((word p n : Nat) : Int) / 2 ^ i) = ((word p n / 2 ^ i : Nat) : Int) by simp]
  simp only [eq_iff_iff]; omega
/-- How many seats are free. -/
def freeN (r : Roster) : Nat := cntP (fun s => !isOn r s) 64
theorem cntW_taken (r : Roster) : cntW (taken r) = 64 - (freeN r : Int) := by
  unfold cntW taken freeN
  rw [filter_cnt, cntP_congr 64 fun i hi => bitI_word (isOn r) 64 i, cntP_congr (q := isOn r) 64 fun i hi => by simp [hi]]
  have := cntP_not (isOn r) 64
  omega
theorem freeN_le (r : Roster) : freeN r ≤ 64 := cntP_le _ _

/-! ### Rosters that change -/
theorem ent_put (r : Roster) {s : Nat} (hs : s < 64) (e : Entry) (k : Nat) : ent (Arr.put r (s : Int) e) (k : Int) = if s = k then e else ent r (k : Int) := by
  rw [ent, get_put _ _ _ _ (by omega) (by omega) (by omega)]
  by_cases h : s = k
  · subst h; simp
  · have : ¬ (s : Int) = (k : Int) := by omega
    simp [h, this]
theorem isOn_put (r : Roster) {s : Nat} (hs : s < 64) (e : Entry) (k : Nat) : isOn (Arr.put r (s : Int) e) k = if s = k then !decide (e.Base = 0) else isOn r k := by
  unfold isOn
  rw [ent_put r hs]
  split <;> rfl
theorem fstN_congr {p q : Nat → Bool} : ∀ (d i : Nat), (∀ k, i ≤ k → k < i + d → p k = q k) → fstN d p i = fstN d q i
  | 0, _, _ => rfl
  | d + 1, i, h => by
    simp only [fstN]
    rw [h i (by omega) (by omega), fstN_congr d (i + 1) fun k h1 h2 => h k (by omega) (by omega)]
theorem findR_put {r : Roster} {s : Nat} (hs : s < 64) {w : Int} (hw : (ent r s).Who ≠ w) {e : Entry} (he : e.Base = 0 ∨ e.Who ≠ w) : findR (Arr.put r (s : Int) e) w = findR r w := by
  have : fstN 64 (fun k => isOn (Arr.put r (s : Int) e) k && decide ((ent (Arr.put r (s : Int) e) k).Who = w)) 0 = fstN 64 (fun k => isOn r k && decide ((ent r k).Who = w)) 0 := fstN_congr 64 0 fun k _ _ => by
    rw [isOn_put r hs, ent_put r hs]
    by_cases h : s = k
    · subst h
      rcases he with he | he
      · simp [he, hw]
      · simp [he, hw]
    · simp [h]
  unfold findR
  rw [this]
theorem freeN_leave {r : Roster} {s : Nat} (hs : s < 64) (hon : isOn r s = true) : freeN (Arr.put r (s : Int) zeroE) = freeN r + 1 := by
  unfold freeN
  refine cntP_up s (by simp [hon]) (by rw [isOn_put r hs]; simp) 64 hs fun i _ hne => ?_
  rw [isOn_put r hs, if_neg (fun h => hne h.symm)]
theorem freeN_join (r : Roster) {s : Nat} (hs : s < 64) (e : Entry) : freeN r ≤ freeN (Arr.put r (s : Int) e) + 1 := by
  unfold freeN
  refine cntP_change s 64 fun i _ hne => ?_
  rw [isOn_put r hs, if_neg (fun h => hne h.symm)]
theorem lowFree_ok {r : Roster} (h : 0 < freeN r) : ∃ s : Nat, s < 64 ∧ lowFree r = s ∧ isOn r s = false ∧ ∀ k, k < s → isOn r k = true := by
  obtain ⟨i, hi, hp⟩ := cntP_pos 64 h
  unfold lowFree
  cases hf : fstN 64 (fun s => !isOn r s) 0 with
  | none =>
    have := fstN_none hf i (by omega) (by omega)
    rw [this] at hp; cases hp
  | some s =>
    obtain ⟨_, h2, h3, h4⟩ := fstN_some hf
    exact ⟨s, by omega, rfl, by simpa using h3, fun k hk => by simpa using h4 k (by omega) hk⟩
theorem leaveGo_len : ∀ (l : List Int) (r : Roster), (leaveGo l r).2.length = l.length
  | [], _ => rfl
  | w :: l, r => by simp [leaveGo, leaveGo_len l]
theorem joinGo_len (since : Int) : ∀ (l : List Int) (b : Int) (r : Roster), (joinGo since l b r).2.length = l.length
  | [], _, _ => rfl
  | w :: l, b, r => by simp [joinGo, joinGo_len since l]
/-- Leavers that are on, each once. -/
def canLeave (r : Roster) (l : List Int) : Prop := (∀ w ∈ l, 0 ≤ findR r w) ∧ l.Nodup
theorem canLeave_next {r : Roster} {w : Int} {l : List Int} (h : canLeave r (w :: l)) : ∃ s : Nat, s < 64 ∧ findR r w = s ∧ isOn r s = true ∧ (ent r s).Who = w ∧ canLeave (Arr.put r (s : Int) zeroE) l := by
  obtain ⟨h1, h2⟩ := h
  obtain ⟨h3, h4⟩ := List.nodup_cons.1 h2
  obtain ⟨s, hs, he, hon, hw, _⟩ := findR_some (h1 w (List.mem_cons_self ..))
  refine ⟨s, hs, he, hon, hw, fun x hx => ?_, h4⟩
  have hne : x ≠ w := fun e => h3 (e ▸ hx)
  rw [findR_put hs (by rw [hw]; exact fun e => hne e.symm) (.inl rfl)]
  exact h1 x (List.mem_cons_of_mem _ hx)
theorem canLeave_free : ∀ {l : List Int} {r : Roster}, canLeave r l → freeN (leaveGo l r).1 = freeN r + l.length
  | [], r, _ => rfl
  | w :: l, r, h => by
    obtain ⟨s, hs, he, hon, _, hn⟩ := canLeave_next h
    simp only [leaveGo, he]
    rw [canLeave_free hn, freeN_leave hs hon]
    simp only [List.length_cons]; omega
theorem canLeave_of {r : Roster} {l : List Int} (h : askL r true l [] = 0) : canLeave r l :=
  ⟨fun w hw => (((askL_0 h).1 w hw).2.2.2).2 rfl, (askL_0 h).2⟩
theorem move_room {r : Roster} {b : Batch} (h : fits r b = 0) : b.Joins.length ≤ freeN (leaveGo b.Leaves r).1 ∧ b.Joins.length ≤ 64 ∧ b.Leaves.length ≤ 64 := by
  obtain ⟨_, h2, _, h4⟩ := fits_ok h
  have hf := canLeave_free (canLeave_of h2)
  have hl := freeN_le (leaveGo b.Leaves r).1
  rw [cntW_taken] at h4
  omega
theorem fine_seat_list {l : List Co.Seat} (h : Fine (.list (.st .seat)) l) : l.length * 16 ≤ 140737488355328 := (Fine.list.1 h).1

/-! ### The move itself -/
theorem leave_fold {Z : Type} (fin : List Co.Seat × Roster → Z) : ∀ (l : List Int) (acc : List Co.Seat) (r : Roster),
    foldE (fun (a : List Co.Seat × Roster) w => (Sum.inl (a.1 ++ [⟨w, findR a.2 w⟩], Arr.put a.2 (findR a.2 w) zeroE) : (List Co.Seat × Roster) ⊕ Z)) fin l (acc, r) = fin (acc ++ (leaveGo l r).2, (leaveGo l r).1)
  | [], acc, r => by simp [foldE, leaveGo]
  | w :: l, acc, r => by
    simp only [foldE, leaveGo]
    rw [leave_fold fin l]
    simp
theorem join_fold {Z : Type} (since base : Int) (fin : List Co.Seat × Roster → Z) : ∀ (l : List Int) (acc : List Co.Seat) (r : Roster),
    foldE (fun (a : List Co.Seat × Roster) w => (Sum.inl (a.1 ++ [⟨w, lowFree a.2⟩], Arr.put a.2 (lowFree a.2) ⟨w, base + a.1.length, since⟩) : (List Co.Seat × Roster) ⊕ Z)) fin l (acc, r) = fin (acc ++ (joinGo since l (base + acc.length) r).2, (joinGo since l (base + acc.length) r).1)
  | [], acc, r => by simp [foldE, joinGo]
  | w :: l, acc, r => by
    simp only [foldE, joinGo]
    rw [join_fold since base fin l]
    simp [Int.add_assoc]
section
variable {r : Roster} {b : Batch} {since base : Int}
theorem move_loop2 (hc : canLeave r b.Leaves) (hl : b.Leaves.length ≤ 256) :
    lfp g_ref09_Move_r2 ((since, base, (), (), (), [], (), b.Leaves, (b.Leaves.length : Int), 0, ()), (r, b, zeroR, ()), ()) = some ((since, base, (), (), (), (leaveGo b.Leaves r).2, (), ()), ((leaveGo b.Leaves r).1, b, zeroR, ()), ()) := by
  have h := lfp_list (f := g_ref09_Move_r2) b.Leaves (fun i (a : List Co.Seat × Roster) => ((since, base, (), (), (), a.1, (), b.Leaves, (b.Leaves.length : Int), (i : Int), ()), (a.2, b, zeroR, ()), ()))
    (fun a w => Sum.inl (a.1 ++ [⟨w, findR a.2 w⟩], Arr.put a.2 (findR a.2 w) zeroE)) (fun i todo a => canLeave a.2 todo ∧ a.1.length = i) (fun a => ((since, base, (), (), (), a.1, (), ()), (a.2, b, zeroR, ()), ()))
    (fun i x rest a _ hi hx ⟨ha, hal⟩ => by
      obtain ⟨s, hs, he, hon, hw, hn⟩ := canLeave_next ha
      refine ⟨fun a' ha' => ?_, ?_⟩
      · simp only [Sum.inl.injEq] at ha'
        subst ha'
        simp only [he]
        exact ⟨hn, by simp [hal]⟩
      · have h1 : (i : Int) < (b.Leaves.length : Int) := by omega
        have h2 : (a.1.length + 1) * 16 ≤ 140737488355328 := by omega
        have h3 : (s : Int) < 64 := by omega
        simp only [g_ref09_Move_r2, h1, hx, he, h2, h3, decide_true, cond_true, Int.natCast_nonneg, Bool.and_self, wrap1' hi (by omega)]
        rfl)
    (fun a _ => by simp [g_ref09_Move_r2]) b.Leaves 0 ([], r) rfl (by omega) ⟨hc, rfl⟩
  rw [leave_fold] at h
  simpa using h
theorem low_loop {a b' : Int} {c d : List Co.Seat} {e f j : Int} {h : List Int} {l : Roster} {i : Int} (hf : 0 < freeN r) :
    lfp g_ref09_Move_r4 ((a, b', (), (), c, d, e, f, 0, h, i, j, ()), (r, l, ()), ()) = some ((a, b', (), (), c, d, e, f, lowFree r, h, i, j, ()), (r, l, ()), ()) := by
  obtain ⟨s, hs, he, h0, h1⟩ := lowFree_ok hf
  rw [lfp_run' (fun k => ((a, b', (), (), c, d, e, f, (k : Int), h, i, j, ()), (r, l, ()), ())) s (by rfl) fun k hk => by
    have g1 : (k : Int) < 64 := by omega
    have g2 : ¬ (Arr.get r (k : Int)).Base = 0 := isOn_iff.1 (h1 k hk)
    simp only [g_ref09_Move_r4, g1, g2, decide_true, decide_false, Bool.not_false, cond_true, Int.natCast_nonneg, Bool.and_self, wrap1 k (by omega)]]
  rw [he]
  refine lfp_inr ?_
  have g1 : (s : Int) < 64 := by omega
  have g2 : (Arr.get r (s : Int)).Base = 0 := Classical.not_not.1 fun h => by rw [isOn_iff.2 h] at h0; cases h0
  simp only [g_ref09_Move_r4, g1, g2, decide_true, Bool.not_true, cond_true, cond_false, Int.natCast_nonneg, Bool.and_self]
theorem move_loop3 {left : List Co.Seat} {z : Roster} (hr : b.Joins.length ≤ freeN r) (hb : b.Joins ≠ [] → 1 ≤ base ∧ base ≤ 32768 - b.Joins.length) :
    lfp g_ref09_Move_r3 ((since, base, (), (), left, [], b.Joins, (b.Joins.length : Int), 0, ()), (r, z, ()), ()) = some (((), (), left, (joinGo since b.Joins base r).2, ()), ((joinGo since b.Joins base r).1, z, ()), ()) := by
  have hlen : b.Joins.length ≤ 64 := Nat.le_trans hr (freeN_le r)
  have h := lfp_list (f := g_ref09_Move_r3) b.Joins (fun i (a : List Co.Seat × Roster) => ((since, base, (), (), left, a.1, b.Joins, (b.Joins.length : Int), (i : Int), ()), (a.2, z, ()), ()))
    (fun a w => Sum.inl (a.1 ++ [⟨w, lowFree a.2⟩], Arr.put a.2 (lowFree a.2) ⟨w, base + a.1.length, since⟩)) (fun i todo a => todo.length ≤ freeN a.2 ∧ a.1.length = i) (fun a => (((), (), left, a.1, ()), (a.2, z, ()), ()))
    (fun i x rest a _ hi hx ⟨ha, hal⟩ => by
      simp only [List.length_cons] at ha
      have hpos : 0 < freeN a.2 := by omega
      obtain ⟨s, hs, he, _, _⟩ := lowFree_ok hpos
      refine ⟨fun a' ha' => ?_, ?_⟩
      · simp only [Sum.inl.injEq] at ha'
        subst ha'
        simp only [he]
        have := freeN_join a.2 hs ⟨x, base + a.1.length, since⟩
        exact ⟨by omega, by simp [hal]⟩
      · have h1 : (i : Int) < (b.Joins.length : Int) := by omega
        have h2 : (a.1.length + 1) * 16 ≤ 140737488355328 := by omega
        have h3 : (s : Int) < 64 := by omega
        have h2i : (i + 1) * 16 ≤ 140737488355328 := by omega
        have hb' := hb (fun e => by rw [e] at hi; simp at hi)
        have hw : IntKind.i64.wrap (base + (i : Int)) = base + (i : Int) := i64_in _ (by omega)
        simp only [g_ref09_Move_r3, h1, hx, decide_true, cond_true, Int.natCast_nonneg, Bool.and_self, low_loop hpos, Option.bind_some, he, h2i, h3, hw, hal, wrap1' hi (by omega)]
        rfl)
    (fun a _ => by simp [g_ref09_Move_r3]) b.Joins 0 ([], r) rfl (by omega) ⟨hr, rfl⟩
  rw [join_fold] at h
  simpa using h
theorem move_loop1 (hn : 0 < b.Joins.length) (h1 : 1 ≤ base) (h2 : base ≤ 32768 - b.Joins.length) (hlen : b.Joins.length ≤ 64) :
    lfp g_ref09_Move_r1 ((since, base, (), (), (), (b.Joins.length : Int), 0, ()), (r, b, zeroR, ()), ()) =
      some (bif allN 64 (fun s => !(decide (base ≤ (ent r s).Base) && decide ((ent r s).Base < base + b.Joins.length))) then .inr ((since, base, (), (), (), ()), (r, b, zeroR, ()), ()) else .inl (((), (), (), 3, ()), (zeroR, ()), ())) := by
  have hw : IntKind.i64.wrap (base + (b.Joins.length : Int)) = base + (b.Joins.length : Int) := i64_in _ (by omega)
  have hp : (0 : Int) < (b.Joins.length : Int) := by omega
  refine lfp_all' (fun i => ((since, base, (), (), (), (b.Joins.length : Int), (i : Int), ()), (r, b, zeroR, ()), ())) 64 _ _ _ rfl ?_ ?_ ?_
  · intro i hi hok
    have g1 : (i : Int) < 64 := by omega
    simp only [g_ref09_Move_r1, g1, hp, decide_true, cond_true, Int.natCast_nonneg, Bool.and_self, hw, wrap1 i (by omega)]
    by_cases a1 : base ≤ (Arr.get r (i : Int)).Base
    · have a2 : ¬ (Arr.get r (i : Int)).Base < base + (b.Joins.length : Int) := by simp [ent, a1] at hok; omega
      simp [a1, a2]
    · simp [a1]
  · intro i hi hok
    have g1 : (i : Int) < 64 := by omega
    have hok : base ≤ (Arr.get r (i : Int)).Base ∧ (Arr.get r (i : Int)).Base < base + (b.Joins.length : Int) := by simpa [ent] using hok
    simp only [g_ref09_Move_r1, g1, hp, decide_true, cond_true, Int.natCast_nonneg, Bool.and_self, hw, hok.1, hok.2]
  · simp [g_ref09_Move_r1]
end
theorem eq_ref09_Move : Eqs c_ref09_Move g_ref09_Move := Eqs.tot fun (r, b, since, base, _) hf => by
  change Int at since base
  change Batch at b
  have hbase : I64 base := fine_i.1 hf.2.2.2.1
  have zr : (Vector.replicate 64 (St.zero St.entry) : Roster) = zeroR := rfl
  simp only [g_ref09_Move, zr]
  by_cases h0 : fits r b = 0
  case neg =>
    have : move r b since base = ⟨zeroR, [], [], fits r b⟩ := by simp [move, h0]
    simp only [h0, this, decide_false, Bool.not_false, cond_true]
  obtain ⟨hroom, hJ, hL⟩ := move_room h0
  have hcl := canLeave_of (fits_ok h0).2.1
  by_cases h1 : since < 1
  · have g : ¬ 1 ≤ since := by omega
    have : move r b since base = ⟨zeroR, [], [], 19⟩ := by simp [move, h0, g]
    simp only [h0, h1, this, decide_true, Bool.not_true, cond_true, cond_false]
  by_cases h2 : 200 < since
  · have g : ¬ since ≤ 200 := by omega
    have : move r b since base = ⟨zeroR, [], [], 19⟩ := by simp [move, h0, g]
    simp only [h0, h1, h2, this, decide_true, decide_false, Bool.not_true, cond_true, cond_false]
  have g1 : 1 ≤ since := by omega
  have g2 : since ≤ 200 := by omega
  simp only [h0, h1, h2, decide_true, decide_false, Bool.not_true, cond_false]
  by_cases hn : 0 < b.Joins.length
  · have hp : (0 : Int) < (b.Joins.length : Int) := by omega
    have hne : ¬ ((b.Joins.length : Int) = 0) := by omega
    simp only [hp, decide_true, cond_true]
    rw [i64_in (32768 - (b.Joins.length : Int)) (by omega)]
    by_cases h3 : base < 1
    · have g : ¬ 1 ≤ base := by omega
      have : move r b since base = ⟨zeroR, [], [], 3⟩ := by
        have : ¬ b.Joins = [] := fun e => by rw [e] at hn; simp at hn
        simp [move, h0, g1, g2, namesFree, this, g]
      simp only [h3, this, decide_true, cond_true]
    by_cases h4 : 32768 - (b.Joins.length : Int) < base
    · have g : ¬ base ≤ 32768 - (b.Joins.length : Int) := by omega
      have : move r b since base = ⟨zeroR, [], [], 3⟩ := by
        have : ¬ b.Joins = [] := fun e => by rw [e] at hn; simp at hn
        simp [move, h0, g1, g2, namesFree, this, g]
      simp only [h3, h4, this, decide_true, decide_false, cond_true, cond_false]
    have g3 : 1 ≤ base := by omega
    have g4 : base ≤ 32768 - (b.Joins.length : Int) := by omega
    simp only [h3, h4, decide_false, cond_false]
    rw [move_loop1 hn g3 g4 hJ]
    have hm : move r b since base = bif allN 64 (fun s => !(decide (base ≤ (ent r s).Base) && decide ((ent r s).Base < base + b.Joins.length))) then moveGo r b since base else ⟨zeroR, [], [], 3⟩ := by
      unfold move namesFree
      simp only [h0, g1, g2, hne, g3, g4, decide_true, decide_false, cond_true, Bool.false_or, Bool.true_and, Bool.and_self]
    rw [hm]
    cases allN 64 (fun s => !(decide (base ≤ (ent r s).Base) && decide ((ent r s).Base < base + b.Joins.length))) with
    | false => rfl
    | true =>
      simp only [cond_true, Option.bind_some, Sum.elim_inr]
      rw [move_loop2 hcl (by omega)]
      simp only [Option.bind_some]
      rw [move_loop3 hroom fun _ => ⟨g3, g4⟩]
      rfl
  · have hz : b.Joins.length = 0 := by omega
    have hp : ¬ (0 : Int) < (b.Joins.length : Int) := by omega
    have hm : move r b since base = moveGo r b since base := by
      unfold move namesFree
      simp only [h0, g1, g2, hz, Int.natCast_zero, decide_true, cond_true, Bool.true_or, Bool.and_self]
    rw [hm]
    simp only [hp, decide_false, cond_false]
    rw [lfp_inr (z := .inr ((since, base, (), (), (), ()), (r, b, zeroR, ()), ())) (by simp [g_ref09_Move_r1, hz])]
    simp only [Option.bind_some, Sum.elim_inr]
    rw [move_loop2 hcl (by omega)]
    simp only [Option.bind_some]
    rw [move_loop3 hroom fun h => absurd (List.length_eq_zero_iff.1 hz) h]
    rfl
end Go.Co.N
