/-
  Members, messages' parts, sealed texts: the functions answer what they are to answer; laws of chapter 17.
  Own text, for the claims about coterie. No program in sight.
-/
import Derived.Test.YtghmcodjbkmlnaaN17G
import Derived.Test.YtghmcodjbkmlnaaN12R
namespace Go.Co.N
open Go Go.Co

/-! ### Members -/
theorem eq_cmp_Compare : Eqs c_cmp_Compare g_cmp_Compare := Eqs.tot fun (a, b, _) _ => by
  change Int at a b
  simp only [g_cmp_Compare, cmpI, decide_true, Bool.not_true, cond_false]
  cases decide (a < b) <;> cases decide (b < a) <;> rfl
theorem eq_member_between : Eqs c_member_between g_member_between := Eqs.tot fun (a, b, c, _) _ => by
  change Int at a b c
  simp only [g_member_between, betw]
  cases decide (b ≤ a) <;> rfl
theorem eq_wire_between : Eqs c_wire_between g_wire_between := Eqs.tot fun (a, b, c, _) _ => by
  change Int at a b c
  simp only [g_wire_between, betw]
  cases decide (b ≤ a) <;> rfl
theorem eq_wire_epoch : Eqs c_wire_epoch g_wire_epoch := Eqs.tot fun (_, _) _ => rfl
theorem eq_ref14_epoch : Eqs c_ref14_epoch g_ref14_epoch := Eqs.tot fun (a, _) _ => by
  change Int at a
  simp only [g_ref14_epoch, betw]
  cases decide (1 ≤ a) <;> rfl
theorem eq_member_card : Eqs c_member_card g_member_card := Eqs.tot fun (c, _) _ => by
  change Card at c
  simp only [g_member_card, goodCard]
  cases betw c.Who 0 255 <;> cases betw c.Slot 0 63 <;> cases betw c.Epoch 1 200 <;> rfl
theorem lt_le (a b : Int) : decide (a < b + 1) = decide (a ≤ b) := by congr 1; simp only [eq_iff_iff]; omega
theorem eq_ref15_GoodCard : Eqs c_ref15_GoodCard g_ref15_GoodCard := Eqs.tot fun (c, _) _ => by
  change Card at c
  have h1 := lt_le c.Who 255
  have h2 := lt_le c.Slot 63
  simp only [show (255 : Int) + 1 = 256 from rfl] at h1
  simp only [show (63 : Int) + 1 = 64 from rfl] at h2
  simp only [g_ref15_GoodCard, goodCard, betw, h1, h2]
  cases decide (0 ≤ c.Who) <;> cases decide (c.Who ≤ 255) <;> cases decide (0 ≤ c.Slot) <;> cases decide (c.Slot ≤ 63) <;> cases decide (1 ≤ c.Epoch) <;> cases decide (c.Epoch ≤ 200) <;> rfl
theorem kind_loop (m : Member) : (Option.bind (lfp g_member_Kind_r1 (((), (), 3, 0, ()), (m, ()), ())) fun z => Sum.elim (fun x : (Int × Unit) × (Member × Unit) × Unit => bif !decide (0 ≤ x.1.1) then some ((3 : Int), ()) else some (-1, ())) (fun _ => some (3, ())) z) = some (bif goodPath m.Path then 3 else -1, ()) := by
  rw [lfp_find' (fun i => (((), (), 3, (i : Int), ()), (m, ()), ())) 3 (fun i => !good (Arr.get m.Path (i : Int))) (fun i => Sum.inl (((i : Int), ()), (m, ()), ())) (.inr ((), (m, ()), ())) (by rfl)
    (fun i hi hb => by
      have h1 : (i : Int) < 3 := by omega
      simp only [g_member_Kind_r1, h1, decide_true, cond_true, Int.natCast_nonneg, Bool.and_self, hb, cond_false, wrap1 i (by omega)])
    (fun i hi hb => by
      have h1 : (i : Int) < 3 := by omega
      simp only [g_member_Kind_r1, h1, decide_true, cond_true, Int.natCast_nonneg, Bool.and_self, hb])
    (by simp [g_member_Kind_r1])]
  simp only [Option.bind_some]
  cases hf : fstN 3 (fun i => !good (Arr.get m.Path (i : Int))) 0 with
  | some i =>
    obtain ⟨_, hi, hb, _⟩ := fstN_some hf
    have : goodPath m.Path = false := Bool.eq_false_iff.2 fun h => by
      have := allN_iff.1 h i (by omega)
      rw [this] at hb; cases hb
    rw [this]
    simp
  | none =>
    have : goodPath m.Path = true := allN_iff.2 fun i hi => by simpa using fstN_none hf i (by omega) (by omega)
    rw [this]; rfl
theorem kind_loop2 (m : Member) : (Option.bind (lfp g_ref15_Kind_r1 (((), 0, ()), (m, ()), ())) fun z => Sum.elim (fun x : (Int × Unit) × Unit × Unit => some (x.1.1, ())) (fun _ => some ((3 : Int), ())) z) = some (bif goodPath m.Path then 3 else -1, ()) := by
  rw [lfp_all' (fun i => (((), (i : Int), ()), (m, ()), ())) 3 (fun i => good (Arr.get m.Path (i : Int))) (.inl ((-1, ()), (), ())) (.inr ((), (), ())) (by rfl)
    (fun i hi hb => by
      have h1 : (i : Int) < 3 := by omega
      simp only [g_ref15_Kind_r1, h1, decide_true, cond_true, Int.natCast_nonneg, Bool.and_self, hb, Bool.not_true, cond_false, wrap1 i (by omega)])
    (fun i hi hb => by
      have h1 : (i : Int) < 3 := by omega
      simp only [g_ref15_Kind_r1, h1, decide_true, cond_true, Int.natCast_nonneg, Bool.and_self, hb, Bool.not_false])
    (by simp [g_ref15_Kind_r1])]
  simp only [Option.bind_some]
  unfold goodPath
  cases allN 3 (fun i => good (Arr.get m.Path (i : Int))) <;> rfl
theorem fine_member {m : Member} (h : Fine (.st .member) m) : I64 m.Epoch ∧ I64 m.Behind := by
  rw [Fine.st] at h
  have h : Fine (.prod .i (.prod .i (.prod .i (.prod (.st .key) (.prod (.arr 3 (.st .key)) (.prod .bool (.prod .bool (.prod .i .unit)))))))) (m.Who, m.Slot, m.Epoch, m.Leaf, m.Path, m.Has, m.Out, m.Behind, ()) := h
  rw [Fine.prod, Fine.prod, Fine.prod, Fine.prod, Fine.prod, Fine.prod, Fine.prod, Fine.prod] at h
  exact ⟨fine_i.1 h.2.2.1, fine_i.1 h.2.2.2.2.2.2.2.1⟩
theorem eq_member_Kind : Eqs c_member_Kind g_member_Kind := Eqs.tot fun (m, _) hf => by
  change Member at m
  have hm : I64 m.Epoch ∧ I64 m.Behind := fine_member hf.1
  simp only [g_member_Kind, kind_loop]
  rw [show (Member.mk 0 0 0 (St.zero St.key) (Vector.replicate 3 (St.zero St.key)) false false 0) = zeroM from rfl, show (Card.mk m.Who m.Slot m.Epoch m.Leaf) = cardOf m from rfl, show (Member.mk m.Who 0 m.Epoch (St.zero St.key) (Vector.replicate 3 (St.zero St.key)) false true 0) = outM m.Who m.Epoch from rfl]
  unfold kind calmB
  cases decide (m = zeroM) with
  | true => rfl
  | false =>
    cases m.Out with
    | true =>
      simp only [cond_true, cond_false]
      cases decide (m = outM m.Who m.Epoch) <;> cases betw m.Who 0 255 <;> cases betw m.Epoch 1 200 <;> rfl
    | false =>
      simp only [cond_true, cond_false]
      cases hg : goodCard (cardOf m) with
      | false => rfl
      | true =>
        have he : m.Epoch ≤ 200 := by
          unfold goodCard at hg
          simp only [Bool.and_eq_true, betw_iff] at hg
          exact hg.1.2.2
        rw [i64_in (m.Epoch + 1) (by omega)]
        rw [show (Vector.replicate 3 (St.zero St.key) : Path) = zeroP from rfl]
        cases decide (m.Behind = 0) <;> cases betw m.Behind (m.Epoch + 1) 200 <;> cases m.Has <;> cases decide (m.Path = zeroP) <;> cases goodPath m.Path <;> rfl
theorem eq_ref15_Kind : Eqs c_ref15_Kind g_ref15_Kind := Eqs.tot fun (m, _) hf => by
  change Member at m
  simp only [g_ref15_Kind, kind_loop2]
  rw [show (Member.mk 0 0 0 (St.zero St.key) (Vector.replicate 3 (St.zero St.key)) false false 0) = zeroM from rfl, show (Card.mk m.Who m.Slot m.Epoch m.Leaf) = cardOf m from rfl, show (Member.mk m.Who 0 m.Epoch (St.zero St.key) (Vector.replicate 3 (St.zero St.key)) false true 0) = outM m.Who m.Epoch from rfl]
  have h1 : decide (m.Who < 256) = decide (m.Who ≤ 255) := lt_le m.Who 255
  have h2 : decide (m.Behind ≤ m.Epoch) = !decide (m.Epoch + 1 ≤ m.Behind) := by
    by_cases h : m.Behind ≤ m.Epoch
    · have : ¬ m.Epoch + 1 ≤ m.Behind := by omega
      simp [h, this]
    · have : m.Epoch + 1 ≤ m.Behind := by omega
      simp [h, this]
  have h3 : decide (200 < m.Behind) = !decide (m.Behind ≤ 200) := by
    by_cases h : m.Behind ≤ 200
    · have : ¬ 200 < m.Behind := by omega
      simp [h, this]
    · have : 200 < m.Behind := by omega
      simp [h, this]
  unfold kind calmB betw
  rw [h1, h2, h3, show (Vector.replicate 3 (St.zero St.key) : Path) = zeroP from rfl]
  cases decide (m = zeroM) with
  | true => rfl
  | false =>
    cases m.Out with
    | true =>
      simp only [cond_true, cond_false]
      cases decide (m = outM m.Who m.Epoch) <;> cases decide (0 ≤ m.Who) <;> cases decide (m.Who ≤ 255) <;> cases decide (1 ≤ m.Epoch) <;> cases decide (m.Epoch ≤ 200) <;> rfl
    | false =>
      simp only [cond_true, cond_false]
      cases goodCard (cardOf m) <;> cases decide (m.Behind = 0) <;> cases decide (m.Epoch + 1 ≤ m.Behind) <;> cases decide (m.Behind ≤ 200) <;> cases m.Has <;> cases decide (m.Path = zeroP) <;> cases goodPath m.Path <;> rfl
theorem group_eq (m : Member) : (bif decide (kind m = 1) then some ((⟨0, 0⟩ : Key), (20 : Int), ()) else bif decide (kind m = 2) then some (⟨0, 0⟩, 22, ()) else bif decide (kind m = 3) then some (Arr.get m.Path 2, 0, ()) else some (⟨0, 0⟩, 30, ())) = some ((group m).1, (group m).2, ()) := by
  by_cases h1 : kind m = 1
  · have : group m = (⟨0, 0⟩, 20) := by simp [group, h1]
    simp [h1, this]
  by_cases h2 : kind m = 2
  · have : group m = (⟨0, 0⟩, 22) := by simp [group, h2]
    simp [h2, this]
  by_cases h3 : kind m = 3
  · have : group m = (Arr.get m.Path 2, 0) := by simp [group, h3]
    simp [h3, this]
  · have : group m = (⟨0, 0⟩, 30) := by simp [group, h1, h2, h3]
    simp [h1, h2, h3, this]
theorem eq_member_Group : Eqs c_member_Group g_member_Group := Eqs.tot fun (m, _) _ => group_eq m
theorem eq_ref15_Group : Eqs c_ref15_Group g_ref15_Group := Eqs.tot fun (m, _) _ => group_eq m

/-! ### Messages' parts -/
theorem eq_wire_seat : Eqs c_wire_seat g_wire_seat := Eqs.tot fun (s, _) _ => by
  change Co.Seat at s
  simp only [g_wire_seat, goodSeat]
  cases betw s.Who 0 255 <;> rfl
theorem eq_wire_box : Eqs c_wire_box g_wire_box := Eqs.tot fun (b, _) _ => by
  change Co.Box at b
  simp only [g_wire_box, goodBox]
  cases good b.Under <;> rfl
theorem eq_wire_item : Eqs c_wire_item g_wire_item := Eqs.tot fun (i, _) _ => by
  change Co.Item at i
  simp only [g_wire_item, goodItem]
  cases betw i.Node 0 20 <;> cases decide (i.From = i.Node) <;> cases below i.Node i.From <;> rfl
theorem mask_below : allN 85 (fun v => allN 85 fun w => decide (decide (bw BinOp.and IntKind.u64 (maskF v) (maskF w) = maskF w) = below v w)) = true := by decide +kernel
theorem maskF_eq {v : Int} (h0 : 0 ≤ v) (h1 : v < 85) : mask v = maskF v := by
  have := allN_iff.1 mask_all v.toNat (by omega)
  simp only [decide_eq_true_eq] at this
  rw [Int.toNat_of_nonneg h0] at this
  exact this.symm
theorem level_neg {v : Int} : level v < 0 ↔ node v = false := by
  by_cases h : 0 ≤ v ∧ v < 85
  · have hn : node v = true := node_iff.2 h
    rcases level_in h.1 h.2 with ⟨_, hl⟩ | ⟨_, _, hl⟩ | ⟨_, _, hl⟩ | ⟨_, hl⟩ <;> rw [hl, hn] <;> simp
  · have hn : node v = false := Bool.eq_false_iff.2 fun hn => h (node_iff.1 hn)
    rw [level_out h, hn]; simp
theorem eq_shape_Below : Eqs c_shape_Below g_shape_Below := Eqs.tot fun (v, w, _) _ => by
  change Int at v w
  simp only [g_shape_Below, level_neg]
  cases hv : node v with
  | false => simp [below, hv]
  | true =>
    cases hw : node w with
    | false => simp [below, hw]
    | true =>
      have h1 := node_iff.1 hv
      have h2 := node_iff.1 hw
      have := allN_iff.1 (allN_iff.1 mask_below v.toNat (by omega)) w.toNat (by omega)
      simp only [decide_eq_true_eq] at this
      rw [Int.toNat_of_nonneg h1.1, Int.toNat_of_nonneg h2.1] at this
      simp only [Bool.true_eq_false, decide_false, cond_false]
      rw [maskF_eq h1.1 h1.2, maskF_eq h2.1 h2.2, this]
theorem fine_rekey {r : Rekey} (h : Fine (.st .rekey) r) : r.Leaves.length * 16 ≤ 140737488355328 ∧ r.Joins.length * 16 ≤ 140737488355328 ∧ r.Items.length * 48 ≤ 140737488355328 := by
  rw [Fine.st] at h
  have h : Fine (.prod .i (.prod (.list (.st .seat)) (.prod (.list (.st .seat)) (.prod (.list (.st .item)) .unit)))) (r.Epoch, r.Leaves, r.Joins, r.Items, ()) := h
  rw [Fine.prod, Fine.prod, Fine.prod, Fine.prod] at h
  exact ⟨(Fine.list.1 h.2.1).1, (Fine.list.1 h.2.2.1).1, (Fine.list.1 h.2.2.2.1).1⟩
theorem eq_wire_empty : Eqs c_wire_empty g_wire_empty := Eqs.tot fun (r, _) hf => by
  change Rekey at r
  have h : r.Leaves.length * 16 ≤ 140737488355328 ∧ r.Joins.length * 16 ≤ 140737488355328 ∧ r.Items.length * 48 ≤ 140737488355328 := fine_rekey hf.1
  simp only [g_wire_empty, noRekey]
  rw [i64_in ((r.Leaves.length : Int) + r.Joins.length) (by omega), i64_in _ (by omega)]
  cases decide (r.Epoch = 0) <;> rfl
theorem all_fold {α Z : Type} (p : α → Bool) (y n : Z) : ∀ l : List α, foldE (fun (_ : Unit) (s : α) => bif p s then (Sum.inl () : Unit ⊕ Z) else Sum.inr y) (fun _ => n) l () = bif l.all p then n else y
  | [] => rfl
  | s :: l => by
    simp only [foldE, List.all_cons]
    cases p s with
    | false => rfl
    | true => simp only [cond_true, Bool.true_and]; exact all_fold p y n l
theorem seats_loop (m : Message) (r : Rekey) (k : Int) (l : List Co.Seat) (hl : l.length * 16 ≤ 140737488355328) : lfp g_wire_Good_r2 ((l, k, (), l, (l.length : Int), 0, ()), (m, r, ()), ()) = some (bif l.all goodSeat then .inr ((l, k, ()), (m, r, ()), ()) else .inl ((false, ()), (m, r, ()), ())) := by
  have h := lfp_list (f := g_wire_Good_r2) l (fun i (_ : Unit) => ((l, k, (), l, (l.length : Int), (i : Int), ()), (m, r, ()), ())) (fun _ s => bif goodSeat s then Sum.inl () else Sum.inr (.inl ((false, ()), (m, r, ()), ()))) (fun _ _ _ => True) (fun _ => .inr ((l, k, ()), (m, r, ()), ()))
    (fun i x rest a _ hi hx _ => by
      refine ⟨fun _ _ => trivial, ?_⟩
      have h1 : (i : Int) < (l.length : Int) := by omega
      simp only [g_wire_Good_r2, h1, hx, decide_true, cond_true, Int.natCast_nonneg, Bool.and_self, wrap1' hi (by omega)]
      cases goodSeat x <;> rfl)
    (fun a _ => by simp [g_wire_Good_r2]) l 0 () rfl (by omega) trivial
  rw [all_fold] at h
  exact h
theorem items_loop (m : Message) (r : Rekey) (k : Int) (l : List Co.Item) (hl : l.length * 48 ≤ 140737488355328) : lfp g_wire_Good_r4 ((l, k, (), l, (l.length : Int), 0, ()), (m, r, ()), ()) = some (bif l.all goodItem then .inr ((l, k, ()), (m, r, ()), ()) else .inl ((false, ()), (m, r, ()), ())) := by
  have h := lfp_list (f := g_wire_Good_r4) l (fun i (_ : Unit) => ((l, k, (), l, (l.length : Int), (i : Int), ()), (m, r, ()), ())) (fun _ s => bif goodItem s then Sum.inl () else Sum.inr (.inl ((false, ()), (m, r, ()), ()))) (fun _ _ _ => True) (fun _ => .inr ((l, k, ()), (m, r, ()), ()))
    (fun i x rest a _ hi hx _ => by
      refine ⟨fun _ _ => trivial, ?_⟩
      have h1 : (i : Int) < (l.length : Int) := by omega
      simp only [g_wire_Good_r4, h1, hx, decide_true, cond_true, Int.natCast_nonneg, Bool.and_self, wrap1' hi (by omega)]
      cases goodItem x <;> rfl)
    (fun a _ => by simp [g_wire_Good_r4]) l 0 () rfl (by omega) trivial
  rw [all_fold] at h
  exact h
theorem path_loop (m : Message) (p : Reply) : lfp g_wire_Good_r9 (((), 3, (), (), 3, 0, ()), (m, p, ()), ()) = some (bif allN 3 (fun i => goodBox (Arr.get p.Path (i : Int))) then .inr (((), 3, ()), (m, p, ()), ()) else .inl ((false, ()), (m, p, ()), ())) :=
  lfp_all' (fun i => (((), 3, (), (), 3, (i : Int), ()), (m, p, ()), ())) 3 _ _ _ rfl
    (fun i hi hb => by
      have h1 : (i : Int) < 3 := by omega
      simp only [g_wire_Good_r9, h1, decide_true, cond_true, Int.natCast_nonneg, Bool.and_self, hb, Bool.not_true, cond_false, wrap1 i (by omega)])
    (fun i hi hb => by
      have h1 : (i : Int) < 3 := by omega
      simp only [g_wire_Good_r9, h1, decide_true, cond_true, Int.natCast_nonneg, Bool.and_self, hb, Bool.not_false])
    (by simp [g_wire_Good_r9])
def parts (a b c d : Bool) : Arr 4 Bool := Arr.put (Arr.put (Arr.put (Arr.put (Vector.replicate 4 false) 0 a) 1 b) 2 c) 3 d
def partAt (a b c d : Bool) : Nat → Bool
  | 0 => a
  | 1 => b
  | 2 => c
  | _ => d
theorem parts_get (a b c d : Bool) (i : Nat) (h : i < 4) : Arr.get (parts a b c d) (i : Int) = partAt a b c d i := by
  unfold parts
  rw [get_put _ _ _ _ (by omega) (by omega) (by omega), get_put _ _ _ _ (by omega) (by omega) (by omega), get_put _ _ _ _ (by omega) (by omega) (by omega), get_put _ _ _ _ (by omega) (by omega) (by omega)]
  have : i = 0 ∨ i = 1 ∨ i = 2 ∨ i = 3 := by omega
  rcases this with rfl | rfl | rfl | rfl <;> rfl
theorem parts_loop (m : Message) (a b c d : Bool) : lfp g_wire_Good_r1 (((), parts a b c d, 0, ()), (m, ()), ()) =
    some (bif allN 4 (fun i => !partAt a b c d i || decide (((i + 1 : Nat) : Int) = m.Kind)) then .inr (((), ()), (m, ()), ()) else .inl ((false, ()), (), ())) :=
  lfp_all' (fun i => (((), parts a b c d, (i : Int), ()), (m, ()), ())) 4 _ _ _ rfl
    (fun i hi hb => by
      have h1 : (i : Int) < 4 := by omega
      simp only [g_wire_Good_r1, h1, decide_true, cond_true, Int.natCast_nonneg, Bool.and_self, parts_get a b c d i hi, wrap1 i (by omega)]
      cases hx : partAt a b c d i with
      | false => simp
      | true =>
        have : ((i + 1 : Nat) : Int) = m.Kind := by rw [hx] at hb; simpa using hb
        simp only [this, decide_true, Bool.not_true, cond_true, cond_false])
    (fun i hi hb => by
      have h1 : (i : Int) < 4 := by omega
      simp only [g_wire_Good_r1, h1, decide_true, cond_true, Int.natCast_nonneg, Bool.and_self, parts_get a b c d i hi, wrap1 i (by omega)]
      simp only [Bool.or_eq_false_iff, Bool.not_eq_false', decide_eq_false_iff_not] at hb
      simp only [hb.1, hb.2, decide_false, Bool.not_false, cond_true])
    (by simp [g_wire_Good_r1])
theorem bytes_nil : bytesOf [] = ByteArray.empty := rfl
theorem fine_message {m : Message} (h : Fine (.st .message) m) : Fine (.st .rekey) m.Rekey := by
  rw [Fine.st] at h
  have h : Fine (.prod .i (.prod (.st .rekey) (.prod (.st .request) (.prod (.st .reply) (.prod (.st .sealed) .unit))))) (m.Kind, m.Rekey, m.Request, m.Reply, m.Sealed, ()) := h
  rw [Fine.prod, Fine.prod] at h
  exact h.2.1
theorem len_dec (a b : Nat) : decide ((a : Int) ≤ (b : Int)) = decide (a ≤ b) := by congr 1; simp only [eq_iff_iff]; omega
theorem eq_wire_Good : Eqs c_wire_Good g_wire_Good := Eqs.tot fun (m, _) hf => by
  change Message at m
  have hr : m.Rekey.Leaves.length * 16 ≤ 140737488355328 ∧ m.Rekey.Joins.length * 16 ≤ 140737488355328 ∧ m.Rekey.Items.length * 48 ≤ 140737488355328 := fine_rekey (fine_message hf.1)
  simp only [g_wire_Good]
  have hp : (Arr.put (Arr.put (Arr.put (Arr.put (Vector.replicate 4 false : Arr 4 Bool) 0 !noRekey m.Rekey) 1 !decide (m.Request = Request.mk 0 0)) 2 !decide (m.Reply = Reply.mk 0 0 0 (Vector.replicate 3 (St.zero St.box)))) 3 !decide (m.Sealed = Sealed.mk 0 (St.zero St.key) (bytesOf []))) = parts (!noRekey m.Rekey) (!decide (m.Request = zeroQ)) (!decide (m.Reply = zeroY)) (!decide (m.Sealed = zeroS)) := rfl
  rw [hp, parts_loop]
  by_cases hk : betw m.Kind 1 4 = true
  case neg =>
    have hk' : ¬ (1 ≤ m.Kind ∧ m.Kind ≤ 4) := fun h => hk (betw_iff.2 h)
    have k1 : ¬ m.Kind = 1 := by omega
    have k2 : ¬ m.Kind = 2 := by omega
    have k3 : ¬ m.Kind = 3 := by omega
    have k4 : ¬ m.Kind = 4 := by omega
    have : goodMsg m = false := by simp [goodMsg, k1, k2, k3, k4]
    rw [this]; simp [hk]
  have hk' := betw_iff.1 hk
  simp only [hk, Bool.not_true, cond_false, Option.bind_some]
  have : m.Kind = 1 ∨ m.Kind = 2 ∨ m.Kind = 3 ∨ m.Kind = 4 := by omega
  rcases this with k | k | k | k
  · have hall : allN 4 (fun i => !partAt (!noRekey m.Rekey) (!decide (m.Request = zeroQ)) (!decide (m.Reply = zeroY)) (!decide (m.Sealed = zeroS)) i || decide (((i + 1 : Nat) : Int) = m.Kind)) = (decide (m.Request = zeroQ) && decide (m.Reply = zeroY) && decide (m.Sealed = zeroS)) := by
      rw [k]
      cases noRekey m.Rekey <;> cases decide (m.Request = zeroQ) <;> cases decide (m.Reply = zeroY) <;> cases decide (m.Sealed = zeroS) <;> rfl
    have hgm : goodMsg m = (goodRekey m.Rekey && (decide (m.Request = zeroQ) && decide (m.Reply = zeroY) && decide (m.Sealed = zeroS))) := by
      unfold goodMsg; rw [k]
      cases goodRekey m.Rekey <;> cases decide (m.Request = zeroQ) <;> cases decide (m.Reply = zeroY) <;> cases decide (m.Sealed = zeroS) <;> rfl
    rw [hall, hgm]
    cases (decide (m.Request = zeroQ) && decide (m.Reply = zeroY) && decide (m.Sealed = zeroS)) with
    | false => rw [Bool.and_false]; rfl
    | true =>
      rw [Bool.and_true]
      simp only [cond_true, Sum.elim_inr, k, decide_true]
      unfold goodRekey goodSeats
      cases betw m.Rekey.Epoch 1 200 with
      | false => rfl
      | true =>
        simp only [cond_true, Bool.true_and]
        rw [seats_loop m m.Rekey 64 m.Rekey.Leaves hr.1]
        cases m.Rekey.Leaves.all goodSeat with
        | false => rfl
        | true =>
          simp only [cond_true, Bool.true_and, Option.bind_some, Sum.elim_inr]
          rw [show decide ((m.Rekey.Leaves.length : Int) ≤ 64) = decide (m.Rekey.Leaves.length ≤ 64) from len_dec _ 64]
          cases decide (m.Rekey.Leaves.length ≤ 64) with
          | false => rfl
          | true =>
            simp only [cond_true, Bool.true_and]
            rw [seats_loop m m.Rekey 64 m.Rekey.Joins hr.2.1]
            cases m.Rekey.Joins.all goodSeat with
            | false => rfl
            | true =>
              simp only [cond_true, Bool.true_and, Option.bind_some, Sum.elim_inr]
              rw [show decide ((m.Rekey.Joins.length : Int) ≤ 64) = decide (m.Rekey.Joins.length ≤ 64) from len_dec _ 64]
              cases decide (m.Rekey.Joins.length ≤ 64) with
              | false => rfl
              | true =>
                simp only [cond_true, Bool.true_and]
                rw [items_loop m m.Rekey 1536 m.Rekey.Items hr.2.2]
                cases m.Rekey.Items.all goodItem with
                | false => rw [Bool.and_false]; rfl
                | true =>
                  simp only [cond_true, Bool.and_true, Option.bind_some, Sum.elim_inr]
                  rw [show decide ((m.Rekey.Items.length : Int) ≤ 1536) = decide (m.Rekey.Items.length ≤ 1536) from len_dec _ 1536]
  · have hall : allN 4 (fun i => !partAt (!noRekey m.Rekey) (!decide (m.Request = zeroQ)) (!decide (m.Reply = zeroY)) (!decide (m.Sealed = zeroS)) i || decide (((i + 1 : Nat) : Int) = m.Kind)) = (noRekey m.Rekey && decide (m.Reply = zeroY) && decide (m.Sealed = zeroS)) := by
      rw [k]
      cases noRekey m.Rekey <;> cases decide (m.Request = zeroQ) <;> cases decide (m.Reply = zeroY) <;> cases decide (m.Sealed = zeroS) <;> rfl
    have hgm : goodMsg m = (goodRequest m.Request && (noRekey m.Rekey && decide (m.Reply = zeroY) && decide (m.Sealed = zeroS))) := by
      unfold goodMsg; rw [k]
      cases goodRequest m.Request <;> cases noRekey m.Rekey <;> cases decide (m.Reply = zeroY) <;> cases decide (m.Sealed = zeroS) <;> rfl
    rw [hall, hgm]
    cases (noRekey m.Rekey && decide (m.Reply = zeroY) && decide (m.Sealed = zeroS)) with
    | false => rw [Bool.and_false]; rfl
    | true =>
      rw [Bool.and_true]
      simp only [cond_true, Sum.elim_inr, k, decide_true]
      unfold goodRequest goodSeat
      cases betw m.Request.Who 0 255 <;> rfl
  · have hall : allN 4 (fun i => !partAt (!noRekey m.Rekey) (!decide (m.Request = zeroQ)) (!decide (m.Reply = zeroY)) (!decide (m.Sealed = zeroS)) i || decide (((i + 1 : Nat) : Int) = m.Kind)) = (noRekey m.Rekey && decide (m.Request = zeroQ) && decide (m.Sealed = zeroS)) := by
      rw [k]
      cases noRekey m.Rekey <;> cases decide (m.Request = zeroQ) <;> cases decide (m.Reply = zeroY) <;> cases decide (m.Sealed = zeroS) <;> rfl
    have hgm : goodMsg m = (goodReply m.Reply && (noRekey m.Rekey && decide (m.Request = zeroQ) && decide (m.Sealed = zeroS))) := by
      unfold goodMsg; rw [k]
      cases goodReply m.Reply <;> cases noRekey m.Rekey <;> cases decide (m.Request = zeroQ) <;> cases decide (m.Sealed = zeroS) <;> rfl
    rw [hall, hgm]
    cases (noRekey m.Rekey && decide (m.Request = zeroQ) && decide (m.Sealed = zeroS)) with
    | false => rw [Bool.and_false]; rfl
    | true =>
      rw [Bool.and_true]
      simp only [cond_true, Sum.elim_inr, k, decide_true]
      unfold goodReply goodSeat
      rw [path_loop m m.Reply]
      cases betw m.Reply.Who 0 255 <;> cases betw m.Reply.Slot 0 63 <;> cases betw m.Reply.Epoch 1 200 <;> cases allN 3 (fun i => goodBox (Arr.get m.Reply.Path (i : Int))) <;> rfl
  · have hall : allN 4 (fun i => !partAt (!noRekey m.Rekey) (!decide (m.Request = zeroQ)) (!decide (m.Reply = zeroY)) (!decide (m.Sealed = zeroS)) i || decide (((i + 1 : Nat) : Int) = m.Kind)) = (noRekey m.Rekey && decide (m.Request = zeroQ) && decide (m.Reply = zeroY)) := by
      rw [k]
      cases noRekey m.Rekey <;> cases decide (m.Request = zeroQ) <;> cases decide (m.Reply = zeroY) <;> cases decide (m.Sealed = zeroS) <;> rfl
    have hgm : goodMsg m = (goodSealed m.Sealed && (noRekey m.Rekey && decide (m.Request = zeroQ) && decide (m.Reply = zeroY))) := by
      unfold goodMsg; rw [k]
      cases goodSealed m.Sealed <;> cases noRekey m.Rekey <;> cases decide (m.Request = zeroQ) <;> cases decide (m.Reply = zeroY) <;> rfl
    rw [hall, hgm]
    cases (noRekey m.Rekey && decide (m.Request = zeroQ) && decide (m.Reply = zeroY)) with
    | false => rw [Bool.and_false]; rfl
    | true =>
      rw [Bool.and_true]
      simp only [cond_true, Sum.elim_inr, k, decide_true]
      unfold goodSealed
      rw [show decide ((m.Sealed.Text.size : Int) ≤ 64) = decide (m.Sealed.Text.size ≤ 64) from len_dec _ 64]
      cases betw m.Sealed.Epoch 1 200 <;> cases good m.Sealed.Under <;> rfl
theorem eq_ref14_GoodSealed : Eqs c_ref14_GoodSealed g_ref14_GoodSealed := Eqs.tot fun (s, _) _ => by
  change Sealed at s
  have h := len_dec s.Text.size 64
  rw [show ((64 : Nat) : Int) = 64 from rfl] at h
  simp only [g_ref14_GoodSealed, goodSealed, h]
  cases betw s.Epoch 1 200 <;> cases good s.Under <;> rfl
end Go.Co.N
