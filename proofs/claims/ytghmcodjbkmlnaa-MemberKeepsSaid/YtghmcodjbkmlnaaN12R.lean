/-
  Steps and their messages: the reference's functions answer what they are to answer.
  Own text, for the claims about coterie. No program in sight.
-/
import Derived.Test.YtghmcodjbkmlnaaN12Q
namespace Go.Co.N
open Go Go.Co

/-! ### Replaced nodes -/
def hitB (l : List Co.Seat) (v : Nat) : Bool := l.any fun s => below v (leaf s.Slot)
theorem replaced_eq (l : List Co.Seat) : replaced l = ((word (hitB l) 21 : Nat) : Int) := rfl
theorem hit_fold {Z : Type} (v : Int) (y n : Z) : ∀ l : List Co.Seat, foldE (fun (_ : Unit) (s : Co.Seat) => bif below v (leaf s.Slot) then (Sum.inr y : Unit ⊕ Z) else Sum.inl ()) (fun _ => n) l () = bif l.any (fun s => below v (leaf s.Slot)) then y else n
  | [] => rfl
  | s :: l => by
    simp only [foldE, List.any_cons]
    cases below v (leaf s.Slot) with
    | true => rfl
    | false => simp only [cond_false, Bool.false_or]; exact hit_fold v y n l
theorem pow_u32 {v : Nat} (h : v < 21) : (2 : Nat) ^ v ≤ 1048576 := Nat.le_trans (Nat.pow_le_pow_right (by omega) (show v ≤ 20 by omega)) (by decide)
theorem eq_ref11_Replaced : Eqs c_ref11_Replaced g_ref11_Replaced := Eqs.tot fun (l, _) hf => by
  have hlen : List.length (l : List Co.Seat) * 16 ≤ 140737488355328 := fine_seat_list hf.1
  simp only [g_ref11_Replaced]
  rw [lfp_run' (fun v => (((l : List Co.Seat), ((word (hitB l) v : Nat) : Int), ((2 ^ v : Nat) : Int), (v : Int), ()), (), ())) 21 (by rfl) fun v hv => by
    have h1 : (v : Int) < 21 := by omega
    have hw := word_lt (hitB l) v
    have hp := pow_u32 hv
    have hin := lfp_list (f := g_ref11_Replaced_r2) (l : List Co.Seat) (fun i (_ : Unit) => (((l : List Co.Seat), ((word (hitB l) v : Nat) : Int), ((2 ^ v : Nat) : Int), (v : Int), (l : List Co.Seat), (List.length (l : List Co.Seat) : Int), (i : Int), ()), (), ()))
      (fun _ s => bif below v (leaf s.Slot) then Sum.inr (((l : List Co.Seat), ((word (hitB l) v : Nat) : Int) + ((2 ^ v : Nat) : Int), ((2 ^ v : Nat) : Int), (v : Int), ()), (), ()) else Sum.inl ()) (fun _ _ _ => True) (fun _ => (((l : List Co.Seat), ((word (hitB l) v : Nat) : Int), ((2 ^ v : Nat) : Int), (v : Int), ()), (), ()))
      (fun i x rest a _ hi hx _ => by
        refine ⟨fun _ _ => trivial, ?_⟩
        have g1 : (i : Int) < (List.length (l : List Co.Seat) : Int) := by omega
        have w2 : IntKind.u32.wrap (((word (hitB l) v : Nat) : Int) + ((2 ^ v : Nat) : Int)) = ((word (hitB l) v : Nat) : Int) + ((2 ^ v : Nat) : Int) := Go.IntWalk.u32_in _ (by omega)
        simp only [g_ref11_Replaced_r2, g1, hx, decide_true, cond_true, Int.natCast_nonneg, Bool.and_self, wrap1' hi (by omega), w2]
        cases below (v : Int) (leaf x.Slot) <;> rfl)
      (fun a _ => by simp [g_ref11_Replaced_r2]) l 0 () rfl (by omega) trivial
    rw [hit_fold] at hin
    have hin' : lfp g_ref11_Replaced_r2 (((l : List Co.Seat), ((word (hitB l) v : Nat) : Int), ((2 ^ v : Nat) : Int), (v : Int), (l : List Co.Seat), (List.length (l : List Co.Seat) : Int), 0, ()), (), ()) = some (((l : List Co.Seat), ((word (hitB l) (v + 1) : Nat) : Int), ((2 ^ v : Nat) : Int), (v : Int), ()), (), ()) := by
      refine hin.trans ?_
      simp only [word]
      cases hh : hitB l v with
      | true => rw [show (List.any (l : List Co.Seat) fun s => below v (leaf s.Slot)) = true from hh]; simp
      | false => rw [show (List.any (l : List Co.Seat) fun s => below v (leaf s.Slot)) = false from hh]; simp
    have w3 : IntKind.u32.wrap (((2 ^ v : Nat) : Int) * 2) = ((2 ^ (v + 1) : Nat) : Int) := by
      rw [Go.IntWalk.u32_in _ (by omega), Nat.pow_succ]; omega
    simp only [g_ref11_Replaced_r1, h1, decide_true, cond_true, hin', Option.bind_some, w3, wrap1 v (by omega)]]
  rw [lfp_inr (z := ((((word (hitB l) 21 : Nat) : Int), ()), (), ())) (by simp [g_ref11_Replaced_r1])]
  rfl

/-! ### Steps -/
theorem gone_fold {Z : Type} (r : Roster) (fin : List Co.Seat → Z) : ∀ (l : List Int) (acc : List Co.Seat),
    foldE (fun (a : List Co.Seat) w => (Sum.inl (a ++ [⟨w, findR r w⟩]) : List Co.Seat ⊕ Z)) fin l acc = fin (acc ++ goneOf r l)
  | [], acc => by simp [foldE, goneOf]
  | w :: l, acc => by
    simp only [foldE]
    rw [gone_fold r fin l]
    simp [goneOf]
theorem turn_fresh {k : Keys} {m f : Int} (h : (turn k m f).2.2 = 0) : (turn k m f).2.1 = f + cntTo m 21 := by rw [(turn_ok h).2.2.2.2]
theorem move_joined {r : Roster} {b : Batch} {since base : Int} (h : (move r b since base).e = 0) : (move r b since base) = moveGo r b since base ∧ fits r b = 0 ∧ (1 ≤ since ∧ since ≤ 200) ∧ namesFree r base b.Joins.length = true := by
  unfold move at h ⊢
  by_cases h0 : fits r b = 0
  · by_cases h1 : 1 ≤ since ∧ since ≤ 200
    · have h1' : (decide (1 ≤ since) && decide (since ≤ 200)) = true := by simp [h1.1, h1.2]
      cases h2 : namesFree r base b.Joins.length with
      | true => simp only [h0, h1', decide_true, cond_true]; exact ⟨trivial, trivial, h1, trivial⟩
      | false => simp [h0, h1', h2] at h
    · have h1' : (decide (1 ≤ since) && decide (since ≤ 200)) = false := by
        apply Bool.eq_false_iff.2; intro h; exact h1 (by simpa using h)
      simp [h0, h1'] at h
  · simp [h0] at h
theorem eq_ref11_Next : Eqs c_ref11_Next g_ref11_Next := Eqs.tot fun (t, b, _) hf => by
  change Tree at t
  change Batch at b
  simp only [g_ref11_Next, chkT_0]
  by_cases hg : goodTree t = true
  case neg =>
    have : nextT t b = ⟨zeroT, [], [], 31⟩ := by simp [nextT, hg]
    simp only [hg, this]; rfl
  by_cases he : t.Epoch = 200
  · have : nextT t b = ⟨zeroT, [], [], 19⟩ := by simp [nextT, hg, he]
    simp only [hg, he, this]; rfl
  by_cases hfi : fits t.Roster b = 0
  case neg =>
    have : nextT t b = ⟨zeroT, [], [], fits t.Roster b⟩ := by simp [nextT, hg, he, hfi]
    simp only [hg, he, hfi, this, decide_true, decide_false, Bool.not_true, Bool.not_false, cond_true, cond_false]; rfl
  have hgt := goodTree_iff.1 hg
  have hL := askL_len (fits_ok hfi).2.1
  obtain ⟨_, hJ, _⟩ := move_room hfi
  simp only [hg, he, hfi, decide_true, decide_false, Bool.not_true, cond_false]
  have hloop := lfp_list (f := g_ref11_Next_r1) b.Leaves (fun i (a : List Co.Seat) => (((), (), (), a, b.Leaves, (b.Leaves.length : Int), (i : Int), ()), (t, b, St.zero St.tree, ()), ()))
    (fun a w => Sum.inl (a ++ [⟨w, findR t.Roster w⟩])) (fun i _ a => a.length = i) (fun a => (((), (), (), a, ()), (t, b, St.zero St.tree, ()), ()))
    (fun i x rest a _ hi hx ha => by
      refine ⟨fun a' ha' => ?_, ?_⟩
      · simp only [Sum.inl.injEq] at ha'
        subst ha'; simp [ha]
      · have h1 : (i : Int) < (b.Leaves.length : Int) := by omega
        have h2 : (a.length + 1) * 16 ≤ 140737488355328 := by omega
        simp only [g_ref11_Next_r1, h1, hx, h2, decide_true, cond_true, Int.natCast_nonneg, Bool.and_self, wrap1' hi (by omega)]
        rfl)
    (fun a _ => by simp [g_ref11_Next_r1]) b.Leaves 0 [] rfl (by omega) rfl
  rw [gone_fold] at hloop
  rw [show lfp g_ref11_Next_r1 (((), (), (), [], b.Leaves, (b.Leaves.length : Int), 0, ()), (t, b, St.zero St.tree, ()), ()) = _ from hloop]
  simp only [List.nil_append, Option.bind_some]
  have hst : turn t.Keys (replaced (goneOf t.Roster b.Leaves)) t.Fresh = stepTurn t b := rfl
  rw [i64_in (t.Epoch + 1) (by omega)]
  simp only [hst]
  by_cases ht : (stepTurn t b).2.2 = 0
  case neg =>
    have : nextT t b = ⟨zeroT, [], [], (stepTurn t b).2.2⟩ := by simp [nextT, hg, he, hfi, ht]
    simp only [ht, this, decide_false, Bool.not_false, cond_true]; rfl
  have hmv : move t.Roster b (t.Epoch + 1) (stepTurn t b).2.1 = stepMove t b := rfl
  simp only [ht, decide_true, Bool.not_true, cond_false, hmv]
  by_cases hm : (stepMove t b).e = 0
  case neg =>
    have : nextT t b = ⟨zeroT, [], [], (stepMove t b).e⟩ := by simp [nextT, hg, he, hfi, ht, hm]
    simp only [hm, this, decide_false, Bool.not_false, cond_true]; rfl
  have hfr := turn_fresh ht
  have hcnt := cntTo_le (replaced (goneOf t.Roster b.Leaves)) 21
  have hjl : (stepMove t b).joined.length = b.Joins.length := by
    have := (move_joined hm).1
    unfold stepMove
    rw [this, moveGo]
    exact joinGo_len _ _ _ _
  have hw : IntKind.i64.wrap ((stepTurn t b).2.1 + ((stepMove t b).joined.length : Int)) = (stepTurn t b).2.1 + ((stepMove t b).joined.length : Int) := by
    rw [hjl]
    unfold stepTurn at hfr ⊢
    exact i64_in _ (by omega)
  have : nextT t b = ⟨⟨t.Epoch + 1, (stepTurn t b).2.1 + (stepMove t b).joined.length, (stepTurn t b).1, (stepMove t b).r⟩, (stepMove t b).left, (stepMove t b).joined, 0⟩ := by simp [nextT, hg, he, hfi, ht, hm]
  simp only [hm, this, decide_true, Bool.not_true, cond_false, hw]

/-! ### Messages -/
theorem eq_ref12_item : Eqs c_ref12_item g_ref12_item := Eqs.tot fun (_, _, _, _) _ => rfl
/-- The items of the first i children. -/
def kidItems (t : Tree) (v i : Nat) : List Co.Item := ((List.range i).filter fun (i : Nat) => belowR t.Roster (child v i)).map fun (i : Nat) => itemOf t v (child v i)
theorem kidItems_succ (t : Tree) (v i : Nat) : kidItems t v (i + 1) = kidItems t v i ++ (bif belowR t.Roster (child v i) then [itemOf t v (child v i)] else []) := by
  unfold kidItems
  rw [List.range_succ, List.filter_append, List.map_append]
  cases h : belowR t.Roster (child v i) <;> simp [h]
theorem kidItems_len (t : Tree) (v i : Nat) : (kidItems t v i).length ≤ i := by
  unfold kidItems
  have := List.length_filter_le (fun (i : Nat) => belowR t.Roster (child v i)) (List.range i)
  simpa using this
theorem nodeItems_len (t : Tree) (m : Int) (v : Nat) : (nodeItems t m v).length ≤ 4 := by
  unfold nodeItems
  cases inB m v with
  | false => simp
  | true => exact kidItems_len t v 4
theorem items_loop2 {t : Tree} {m : Int} {j : List Co.Seat} {acc : List Co.Item} {v : Nat} (h : acc.length ≤ 1000) :
    lfp g_ref12_Items_r2 ((j, (), m, acc, (v : Int), 0, ()), (t, ()), ()) = some ((j, (), m, acc ++ nodeItems t m v, (v : Int), ()), (t, ()), ()) := by
  unfold nodeItems
  cases hin : inB m v with
  | false => exact lfp_inr (by simp [g_ref12_Items_r2, hin])
  | true =>
    rw [lfp_run' (fun i => ((j, (), m, acc ++ kidItems t v i, (v : Int), (i : Int), ()), (t, ()), ())) 4 (by simp [kidItems]) fun i hi => by
      have h1 : (i : Int) < 4 := by omega
      have hl := kidItems_len t v i
      have h2 : ((acc ++ kidItems t v i).length + 1) * 48 ≤ 140737488355328 := by rw [List.length_append]; omega
      simp only [g_ref12_Items_r2, h1, hin, h2, decide_true, cond_true, wrap1 i (by omega), kidItems_succ]
      cases belowR t.Roster (child v i) with
      | true => simp
      | false => simp]
    exact lfp_inr (by simp [g_ref12_Items_r2, kidItems])
theorem items_loop1 {t : Tree} {m : Int} {j : List Co.Seat} : ∀ (n : Nat) (acc : List Co.Item), n ≤ 21 → acc.length ≤ 4 * (21 - n) →
    lfp g_ref12_Items_r1 ((j, (), m, acc, (n : Int) - 1, ()), (t, ()), ()) = some ((j, (), m, acc ++ itemsUp t m n, ()), (t, ()), ())
  | 0, acc, _, _ => by
    simp only [itemsUp, List.append_nil]
    exact lfp_inr (by simp [g_ref12_Items_r1])
  | n + 1, acc, hn, ha => by
    have h1 : 0 ≤ ((n + 1 : Nat) : Int) - 1 := by omega
    have hl := nodeItems_len t m n
    have e1 : ((n + 1 : Nat) : Int) - 1 = (n : Int) := by omega
    rw [e1, lfp_inl (x' := ((j, (), m, acc ++ nodeItems t m n, (n : Int) - 1, ()), (t, ()), ())) (by
      have hw : IntKind.i64.wrap ((n : Int) - 1) = (n : Int) - 1 := i64_in _ (by omega)
      simp only [g_ref12_Items_r1, Int.natCast_nonneg, decide_true, cond_true, items_loop2 (t := t) (m := m) (j := j) (acc := acc) (v := n) (by omega), Option.bind_some, hw])]
    rw [items_loop1 n (acc ++ nodeItems t m n) (by omega) (by rw [List.length_append]; omega)]
    simp [itemsUp]
def legItems (t : Tree) (m s : Int) (i : Nat) : List Co.Item := ((List.range i).filter fun (i : Nat) => !inB m (Arr.get (pathG s) (i : Int))).map fun (i : Nat) => itemOf t (Arr.get (pathG s) (i : Int)) (leaf s)
theorem legItems_succ (t : Tree) (m s : Int) (i : Nat) : legItems t m s (i + 1) = legItems t m s i ++ (bif !inB m (Arr.get (pathG s) (i : Int)) then [itemOf t (Arr.get (pathG s) (i : Int)) (leaf s)] else []) := by
  unfold legItems
  rw [List.range_succ, List.filter_append, List.map_append]
  cases h : inB m (Arr.get (pathG s) (i : Int)) <;> simp [h]
theorem legItems_len (t : Tree) (m s : Int) (i : Nat) : (legItems t m s i).length ≤ i := by
  unfold legItems
  have := List.length_filter_le (fun (i : Nat) => !inB m (Arr.get (pathG s) (i : Int))) (List.range i)
  simpa using this
theorem items_loop4 {t : Tree} {m : Int} {acc : List Co.Item} {s : Co.Seat} {j : List Co.Seat} {d e : Int} (h : acc.length ≤ 1000) :
    lfp g_ref12_Items_r4 (((), m, acc, (), (), 0, j, d, e, ()), (t, s, pathG s.Slot, ()), ()) = some (((), m, acc ++ joinItems t m s.Slot, j, d, e, ()), (t, ()), ()) := by
  rw [lfp_run' (fun i => (((), m, acc ++ legItems t m s.Slot i, (), (), (i : Int), j, d, e, ()), (t, s, pathG s.Slot, ()), ())) 3 (by simp [legItems]) fun i hi => by
    have h1 : (i : Int) < 3 := by omega
    have hl := legItems_len t m s.Slot i
    have h2 : ((acc ++ legItems t m s.Slot i).length + 1) * 48 ≤ 140737488355328 := by rw [List.length_append]; omega
    simp only [g_ref12_Items_r4, h1, h2, decide_true, cond_true, Int.natCast_nonneg, Bool.and_self, wrap1 i (by omega), legItems_succ]
    cases inB m (Arr.get (pathG s.Slot) (i : Int)) with
    | true => simp
    | false => simp]
  exact lfp_inr (by simp [g_ref12_Items_r4, legItems, joinItems])
theorem join_items_fold {Z : Type} (t : Tree) (m : Int) (fin : List Co.Item → Z) : ∀ (l : List Co.Seat) (acc : List Co.Item),
    foldE (fun (a : List Co.Item) (s : Co.Seat) => (Sum.inl (a ++ joinItems t m s.Slot) : List Co.Item ⊕ Z)) fin l acc = fin (acc ++ l.flatMap fun s => joinItems t m s.Slot)
  | [], acc => by simp [foldE]
  | s :: l, acc => by
    simp only [foldE]
    rw [join_items_fold t m fin l]
    simp
theorem itemsUp_len (t : Tree) (m : Int) : ∀ n, (itemsUp t m n).length ≤ 4 * n
  | 0 => by simp [itemsUp]
  | n + 1 => by
    have h1 := itemsUp_len t m n
    have h2 := nodeItems_len t m n
    simp only [itemsUp, List.length_append]; omega
theorem eq_ref12_Items : Eqs c_ref12_Items g_ref12_Items := fun (t, left, joined, _) y _ h => by
  change Tree at t
  simp only [guardK] at h
  have hj : List.length (joined : List Co.Seat) ≤ 64 := by
    cases hc : decide (List.length (joined : List Co.Seat) ≤ 64) with
    | true => simpa using hc
    | false => rw [hc] at h; cases h
  rw [decide_eq_true hj] at h
  rw [← h]
  simp only [g_ref12_Items]
  have h1 := items_loop1 (t := t) (m := replaced left) (j := joined) 21 [] (by omega) (by simp)
  rw [show ((21 : Nat) : Int) - 1 = 20 from rfl] at h1
  rw [h1]
  simp only [List.nil_append, Option.bind_some]
  have hu := itemsUp_len t (replaced left) 21
  have hloop := lfp_list (f := g_ref12_Items_r3) (joined : List Co.Seat) (fun i (a : List Co.Item) => (((), replaced left, a, (joined : List Co.Seat), (List.length (joined : List Co.Seat) : Int), (i : Int), ()), (t, ()), ()))
    (fun a s => Sum.inl (a ++ joinItems t (replaced left) s.Slot)) (fun i _ a => a.length ≤ 84 + 3 * i) (fun a => ((a, ()), (), ()))
    (fun i x rest a _ hi hx ha => by
      refine ⟨fun a' ha' => ?_, ?_⟩
      · simp only [Sum.inl.injEq] at ha'
        subst ha'
        have := legItems_len t (replaced left) x.Slot 3
        rw [List.length_append, show joinItems t (replaced left) x.Slot = legItems t (replaced left) x.Slot 3 from rfl]; omega
      · have g1 : (i : Int) < (List.length (joined : List Co.Seat) : Int) := by omega
        have hl4 := items_loop4 (t := t) (m := replaced left) (acc := a) (s := x) (j := joined) (d := (List.length (joined : List Co.Seat) : Int)) (e := (i : Int)) (by omega)
        simp only [g_ref12_Items_r3, g1, hx, decide_true, cond_true, Int.natCast_nonneg, Bool.and_self]
        rw [show (bif decide (0 ≤ leaf x.Slot) then pathN x.Slot else zero3) = pathG x.Slot from rfl, hl4]
        simp only [Option.bind_some, wrap1' hi (by omega)])
    (fun a _ => by simp [g_ref12_Items_r3]) joined 0 (itemsUp t (replaced left) 21) rfl (by omega) (by omega)
  rw [join_items_fold] at hloop
  rw [show lfp g_ref12_Items_r3 (((), replaced left, itemsUp t (replaced left) 21, (joined : List Co.Seat), (List.length (joined : List Co.Seat) : Int), 0, ()), (t, ()), ()) = _ from hloop]
  rfl
theorem nextT_ok {t : Tree} {b : Batch} (h : (nextT t b).e = 0) : goodTree t = true ∧ t.Epoch < 200 ∧ fits t.Roster b = 0 ∧ (stepTurn t b).2.2 = 0 ∧ (stepMove t b).e = 0 ∧
    nextT t b = ⟨⟨t.Epoch + 1, (stepTurn t b).2.1 + b.Joins.length, (stepTurn t b).1, (stepMove t b).r⟩, (stepMove t b).left, (stepMove t b).joined, 0⟩ := by
  by_cases hg : goodTree t = true
  case neg => simp [nextT, hg] at h
  by_cases he : t.Epoch = 200
  · simp [nextT, hg, he] at h
  by_cases hfi : fits t.Roster b = 0
  case neg => simp [nextT, hg, he, hfi] at h
  by_cases ht : (stepTurn t b).2.2 = 0
  case neg => simp [nextT, hg, he, hfi, ht] at h
  by_cases hm : (stepMove t b).e = 0
  case neg => simp [nextT, hg, he, hfi, ht, hm] at h
  have hjl : (stepMove t b).joined.length = b.Joins.length := by
    have := (move_joined hm).1
    unfold stepMove
    rw [this, moveGo]
    exact joinGo_len _ _ _ _
  refine ⟨hg, by have := (goodTree_iff.1 hg).2.1; omega, hfi, ht, hm, ?_⟩
  simp [nextT, hg, he, hfi, ht, hm, hjl]
theorem nextT_joined {t : Tree} {b : Batch} (h : (nextT t b).e = 0) : (nextT t b).joined.length = b.Joins.length ∧ (nextT t b).left.length = b.Leaves.length ∧ b.Joins.length ≤ 64 ∧ b.Leaves.length ≤ 64 := by
  obtain ⟨_, _, hfi, _, hm, he⟩ := nextT_ok h
  obtain ⟨_, h1, h2⟩ := move_room hfi
  have hmv := (move_joined hm).1
  rw [he]
  refine ⟨?_, ?_, h1, h2⟩
  · show (stepMove t b).joined.length = _
    unfold stepMove
    rw [hmv, moveGo]; exact joinGo_len _ _ _ _
  · show (stepMove t b).left.length = _
    unfold stepMove
    rw [hmv, moveGo]; exact leaveGo_len _ _
theorem eq_ref12_Next : Eqs c_ref12_Next g_ref12_Next := Eqs.tot fun (t, b, _) _ => by
  change Tree at t
  change Batch at b
  simp only [g_ref12_Next]
  by_cases h : (nextT t b).e = 0
  · obtain ⟨h1, _, h2, _⟩ := nextT_joined h
    have hj : List.length (nextT t b).joined ≤ 64 := by rw [h1]; exact h2
    have hr : nextR t b = ((nextT t b).t, ⟨(nextT t b).t.Epoch, (nextT t b).left, (nextT t b).joined, items (nextT t b).t (nextT t b).left (nextT t b).joined⟩, 0) := by
      unfold nextR; rw [decide_eq_true h]; rfl
    simp only [h, hj, decide_true, Bool.not_true, cond_true, cond_false, Option.bind_some, hr]
  · have hr : nextR t b = (zeroT, St.zero .rekey, (nextT t b).e) := by unfold nextR; rw [decide_eq_false h]; rfl
    simp only [h, decide_false, Bool.not_false, cond_true, hr]; rfl
end Go.Co.N
