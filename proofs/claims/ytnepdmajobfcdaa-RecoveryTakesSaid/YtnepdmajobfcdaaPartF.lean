/-
  What a step's message holds, and what it does to who stays, who joined, who left.
  What each function computes, printed by a program of my own (wip/tool) out of its run.
  Who stands at another tree of a row doesn't open it: DataApart.
  Members: the laws of chapter 15.
  Members: messages of a row of steps, in any order.
  Recovery: the functions answer what they are to answer.
  Recovery: the laws of chapter 16.
  The program computes so: printed by a program of my own (wip/tool).
  No conditions. Own text, for the claims about coterie.
-/
import Derived.Test.YtnepdmajobfcdaaPartE

section
namespace Go.Co.N
open Go Go.Co

/-! ### Items -/
theorem nodeItems_mem {n : Tree} {m : Int} {v : Nat} {x : Co.Item} : x ∈ nodeItems n m v ↔ inB m v = true ∧ ∃ i : Nat, i < 4 ∧ belowR n.Roster (child v i) = true ∧ x = itemOf n v (child v i) := by
  unfold nodeItems
  cases inB m v with
  | false => simp
  | true =>
    simp only [cond_true, List.mem_map, List.mem_filter, List.mem_range, true_and]
    constructor
    · rintro ⟨i, ⟨h1, h2⟩, rfl⟩; exact ⟨i, h1, h2, rfl⟩
    · rintro ⟨i, h1, h2, rfl⟩; exact ⟨i, ⟨h1, h2⟩, rfl⟩
theorem itemsUp_mem {n : Tree} {m : Int} {x : Co.Item} : ∀ k : Nat, x ∈ itemsUp n m k ↔ ∃ v : Nat, v < k ∧ x ∈ nodeItems n m v
  | 0 => by simp [itemsUp]
  | k + 1 => by
    simp only [itemsUp, List.mem_append, itemsUp_mem k]
    constructor
    · rintro (h | ⟨v, hv, h⟩)
      · exact ⟨k, by omega, h⟩
      · exact ⟨v, by omega, h⟩
    · rintro ⟨v, hv, h⟩
      by_cases e : v = k
      · subst e; exact .inl h
      · exact .inr ⟨v, by omega, h⟩
theorem joinItems_mem {n : Tree} {m s : Int} {x : Co.Item} : x ∈ joinItems n m s ↔ ∃ i : Nat, i < 3 ∧ inB m (Arr.get (pathG s) (i : Int)) = false ∧ x = itemOf n (Arr.get (pathG s) (i : Int)) (leaf s) := by
  unfold joinItems
  simp only [List.mem_map, List.mem_filter, List.mem_range, Bool.not_eq_true']
  constructor
  · rintro ⟨i, ⟨h1, h2⟩, rfl⟩; exact ⟨i, h1, h2, rfl⟩
  · rintro ⟨i, h1, h2, rfl⟩; exact ⟨i, ⟨h1, h2⟩, rfl⟩
theorem items_mem {n : Tree} {left joined : List Co.Seat} {x : Co.Item} : x ∈ items n left joined ↔
    (∃ v : Nat, v < 21 ∧ inB (replaced left) v = true ∧ ∃ i : Nat, i < 4 ∧ belowR n.Roster (child v i) = true ∧ x = itemOf n v (child v i)) ∨
    (∃ s ∈ joined, ∃ i : Nat, i < 3 ∧ inB (replaced left) (Arr.get (pathG s.Slot) (i : Int)) = false ∧ x = itemOf n (Arr.get (pathG s.Slot) (i : Int)) (leaf s.Slot)) := by
  unfold items
  rw [List.mem_append, itemsUp_mem, List.mem_flatMap]
  constructor
  · rintro (⟨v, hv, h⟩ | ⟨s, hs, h⟩)
    · obtain ⟨h1, h2⟩ := nodeItems_mem.1 h
      exact .inl ⟨v, hv, h1, h2⟩
    · exact .inr ⟨s, hs, joinItems_mem.1 h⟩
  · rintro (⟨v, hv, h1, h2⟩ | ⟨s, hs, h⟩)
    · exact .inl ⟨v, hv, nodeItems_mem.2 ⟨h1, h2⟩⟩
    · exact .inr ⟨s, hs, joinItems_mem.2 h⟩
theorem items_of {n : Tree} {left joined : List Co.Seat} {x : Co.Item} (h : x ∈ items n left joined) : x = itemOf n x.Node x.From := by
  rcases items_mem.1 h with ⟨v, _, _, i, _, _, rfl⟩ | ⟨s, _, i, _, _, rfl⟩ <;> rfl
theorem find_item {n : Tree} {l : List Co.Item} (hl : ∀ x ∈ l, x = itemOf n x.Node x.From) {v fr : Int} (h : itemOf n v fr ∈ l) : l.find? (fun i => decide (i.Node = v) && decide (i.From = fr)) = some (itemOf n v fr) := by
  cases hf : l.find? (fun i => decide (i.Node = v) && decide (i.From = fr)) with
  | none =>
    have := List.find?_eq_none.1 hf _ h
    simp [itemOf] at this
  | some y =>
    have h1 := List.mem_of_find?_eq_some hf
    have h2 := List.find?_some hf
    simp only [Bool.and_eq_true, decide_eq_true_eq] at h2
    rw [hl y h1, h2.1, h2.2]
theorem find_no {l : List Co.Item} {v fr : Int} (h : ∀ x ∈ l, x.Node = v → x.From = fr → False) : l.find? (fun i => decide (i.Node = v) && decide (i.From = fr)) = none := by
  refine List.find?_eq_none.2 fun x hx hc => ?_
  simp only [Bool.and_eq_true, decide_eq_true_eq] at hc
  exact h x hx hc.1 hc.2

/-! ### Up from a leaf -/
/-- The node below a path's place. -/
def belowAt (s : Nat) : Nat → Int
  | 0 => leaf s
  | i + 1 => pathAt s i
theorem path_child : allN 64 (fun s => allN 3 fun i => (anyN 4 fun j => decide (child (pathAt s i) j = belowAt s i)) && below (belowAt s i) (leaf s) && below (pathAt s i) (leaf s)) = true := by decide +kernel
theorem pathG_at {s : Nat} (hs : s < 64) (i : Nat) (hi : i < 3) : Arr.get (pathG (s : Int)) (i : Int) = pathAt s i := by
  unfold pathG
  rw [decide_eq_true (leaf_pos.2 ⟨by omega, by omega⟩)]
  exact pathN_get _ _ hi
theorem path_at {s : Nat} (hs : s < 64) (i : Nat) (hi : i < 3) : ∃ v : Nat, pathAt (s : Int) i = v ∧ v < 21 ∧ (∃ j : Nat, j < 4 ∧ child v j = belowAt s i) ∧ below (belowAt s i) (leaf s) = true ∧ below (pathAt s i) (leaf s) = true := by
  obtain ⟨h1, h2⟩ := pathAt_in (s := (s : Int)) (by omega) (by omega) i
  obtain ⟨v, hv⟩ := Int.eq_ofNat_of_zero_le h1
  have := allN_iff.1 (allN_iff.1 path_child s hs) i hi
  simp only [Bool.and_eq_true] at this
  obtain ⟨⟨h3, h4⟩, h5⟩ := this
  obtain ⟨j, hj, h6⟩ := anyN_iff.1 h3
  simp only [decide_eq_true_eq] at h6
  exact ⟨v, hv, by omega, ⟨j, hj, by rw [← hv]; exact h6⟩, h4, h5⟩
/-- A node's key in a tree. -/
abbrev keyN (n : Tree) (v : Int) : Key := (ofT n v).1
theorem keyN_inner (n : Tree) {v : Nat} (hv : v < 21) : keyN n v = Arr.get n.Keys (v : Int) := by rw [keyN, ofT_inner n hv]
theorem keyN_leaf (n : Tree) {s : Nat} (hs : s < 64) : keyN n (leaf s) = (leafAt (ent n.Roster s) n.Epoch).1 := by
  rw [keyN, leaf_in hs, show (21 + (s : Int)) = ((21 + s : Nat) : Int) by omega, ofT_leaf n hs]
theorem good_inner {n : Tree} (hg : goodTree n = true) {v : Nat} (hv : v < 21) : good (keyN n v) = true := by
  rw [keyN_inner n hv]; exact (goodKeys_iff.1 (goodTree_iff.1 hg).2.2.2.2.1 v hv).1
theorem good_leafK {n : Tree} (hg : goodTree n = true) {s : Nat} (hs : s < 64) (hon : isOn n.Roster s = true) : good (keyN n (leaf s)) = true := by
  have h0 : (ofT n ((21 + s : Nat) : Int)).2 = 0 := by rw [ofT_leaf n hs, leafAt_on hg hs hon]
  have := (ofT_ok hg (show 21 + s < 85 by omega) h0).1
  rw [keyN, leaf_in hs, show (21 + (s : Int)) = ((21 + s : Nat) : Int) by omega]
  exact this
theorem good_belowAt {n : Tree} (hg : goodTree n = true) {s : Nat} (hs : s < 64) (hon : isOn n.Roster s = true) (i : Nat) (hi : i < 3) : good (keyN n (belowAt s i)) = true := by
  cases i with
  | zero => exact good_leafK hg hs hon
  | succ i =>
    obtain ⟨v, hv, hv2, _⟩ := path_at hs i (by omega)
    rw [belowAt, hv]; exact good_inner hg hv2
theorem open_item {n : Tree} {v fr : Int} (h1 : good (keyN n v) = true) (h2 : good (keyN n fr) = true) : openB (itemOf n v fr).Box (keyN n fr) = (keyN n v, 0) := by
  unfold openB goodBox itemOf gives
  simp [h1, h2]
theorem belowR_on {r : Roster} {s : Nat} (hs : s < 64) (hon : isOn r s = true) {v : Int} (hb : below v (leaf s) = true) : belowR r v = true := anyN_iff.2 ⟨s, hs, by rw [hon, hb]; rfl⟩

/-- A device that stands at a tree, with what it saw beyond. -/
def withB (m : Member) (x : Int) : Member := ⟨m.Who, m.Slot, m.Epoch, m.Leaf, m.Path, m.Has, m.Out, x⟩
theorem calm_eq (m : Member) : calm m = if m.Behind ≤ m.Epoch then withB m 0 else m := by
  unfold calm
  by_cases h : m.Behind ≤ m.Epoch
  · rw [decide_eq_true h, if_pos h]; rfl
  · rw [decide_eq_false h, if_neg h]; rfl
section
variable {t : Tree} {b : Batch} (h : (nextT t b).e = 0)
/-- A step's message. -/
def msgOf (t : Tree) (b : Batch) : Rekey := ⟨(nextT t b).t.Epoch, (nextT t b).left, (nextT t b).joined, items (nextT t b).t (nextT t b).left (nextT t b).joined⟩
theorem nextR_eq : nextR t b = bif decide ((nextT t b).e = 0) then ((nextT t b).t, msgOf t b, 0) else (zeroT, St.zero .rekey, (nextT t b).e) := rfl
include h in
theorem nextR_is : nextR t b = ((nextT t b).t, msgOf t b, 0) := by rw [nextR_eq, decide_eq_true h]; rfl
theorem nextR_e : (nextR t b).2.2 = (nextT t b).e := by
  rw [nextR_eq]
  by_cases h : (nextT t b).e = 0
  · rw [decide_eq_true h, h]; rfl
  · rw [decide_eq_false h]; rfl
include h
omit h in
theorem msg_find {v fr : Int} (hm : itemOf (nextT t b).t v fr ∈ (msgOf t b).Items) : firstB (msgOf t b) v fr = some (itemOf (nextT t b).t v fr) := find_item (fun _ hx => items_of hx) hm
/-- On the way up a replaced node's key lies under the one below. -/
theorem msg_up {s : Nat} (hs : s < 64) (hon : isOn (nextT t b).t.Roster s = true) (i : Nat) (hi : i < 3) (hin : inB (replaced (nextT t b).left) (pathAt s i) = true) : openI (msgOf t b) (pathAt s i) (belowAt s i) (keyN (nextT t b).t (belowAt s i)) = (keyN (nextT t b).t (pathAt s i), 0) := by
  obtain ⟨v, hv, hv2, ⟨j, hj, hc⟩, h4, _⟩ := path_at hs i hi
  have hm : itemOf (nextT t b).t (pathAt s i) (belowAt s i) ∈ (msgOf t b).Items := items_mem.2 (.inl ⟨v, hv2, by rw [← hv]; exact hin, j, hj, by rw [hc]; exact belowR_on hs hon h4, by rw [hc, hv]⟩)
  unfold openI
  rw [msg_find hm]
  exact open_item (by rw [hv]; exact good_inner (nx_good h) hv2) (good_belowAt (nx_good h) hs hon i hi)
theorem kept_key {v : Nat} (hv : v < 21) (hin : ¬ inB (replaced (nextT t b).left) v = true) : ahead (Arr.get t.Keys (v : Int)) 1 = (Arr.get (nextT t b).t.Keys (v : Int), 0) := by
  obtain ⟨hk, hk1, hk2, hk3, hk4⟩ := nx_turn h
  have hgd := good_iff.1 (goodKeys_iff.1 hk1 v hv).1
  have hst := (hk4 v hv).resolve_left hin
  rw [hk, turned_get _ _ _ v hv, kept_at hin]
  unfold ahead
  rw [if_pos (goodKeys_iff.1 hk1 v hv).1, if_pos ⟨by omega, by simp only [stp] at hst; omega⟩]
theorem follow_up {s : Nat} (hs : s < 64) (hon : isOn (nextT t b).t.Roster s = true) (m : Member) (hm : m.Slot = s) : ∀ (d i : Nat) (p : Path), i + d = 3 → (∀ j : Nat, j < 3 → Arr.get p (j : Int) = if j < i then keyN (nextT t b).t (pathAt s j) else Arr.get t.Keys (pathAt s j)) →
    upP (followStep m (msgOf t b)) m.Slot d i p (belowAt s i) (keyN (nextT t b).t (belowAt s i)) = (pathK (nextT t b).t s, 0)
  | 0, i, p, hi, hp => by
    have : i = 3 := by omega
    subst this
    simp only [upP]
    congr 1
    refine arr_ext fun j h0 h1 => ?_
    obtain ⟨k, rfl⟩ := Int.eq_ofNat_of_zero_le h0
    obtain ⟨v, hv, hv2, _⟩ := path_at hs k (by omega)
    rw [hp k (by omega), if_pos (by omega), pathK, get_make _ _ h0 h1, Int.toNat_natCast, hv, keyN_inner _ hv2]
  | d + 1, i, p, hi, hp => by
    obtain ⟨v, hv, hv2, _⟩ := path_at hs i (by omega)
    have hst : followStep m (msgOf t b) p (i : Int) (belowAt s i) (keyN (nextT t b).t (belowAt s i)) = (keyN (nextT t b).t (pathAt s i), 0) := by
      unfold followStep
      rw [hm, pathG_at hs i (by omega)]
      cases hin : inB (replaced (msgOf t b).Leaves) (pathAt (s : Int) i) with
      | true => exact msg_up h hs hon i (by omega) hin
      | false =>
        simp only [cond_false]
        rw [hp i (by omega), if_neg (by omega), hv, keyN_inner _ hv2]
        refine kept_key h hv2 ?_
        rw [← hv]; exact Bool.eq_false_iff.1 hin
    simp only [upP, hst, decide_true, cond_true]
    have hpg : Arr.get (pathG m.Slot) (i : Int) = belowAt s (i + 1) := by rw [hm, pathG_at hs i (by omega)]; rfl
    rw [hpg]
    refine follow_up hs hon m hm d (i + 1) _ (by omega) fun j hj => ?_
    rw [get_put _ _ _ _ (by omega) (by omega) (by omega)]
    by_cases e : i = j
    · subst e; rw [if_pos rfl, if_pos (by omega)]
    · rw [if_neg (by omega), hp j hj]
      by_cases hlt : j < i
      · rw [if_pos hlt, if_pos (by omega)]
      · rw [if_neg hlt, if_neg (by omega)]
omit h in
theorem stays_on {s : Nat} (hon : isOn t.Roster s = true) (hst : ent (nextT t b).t.Roster s = ent t.Roster s) : isOn (nextT t b).t.Roster s = true := by
  unfold isOn at hon ⊢; rw [hst]; exact hon
theorem followM_stays {s : Nat} (hs : s < 64) (hon : isOn t.Roster s = true) (hst : ent (nextT t b).t.Roster s = ent t.Roster s) (who x : Int) :
    followM (withB (standAt t who s) x) (msgOf t b) = (withB (standAt (nextT t b).t who s) x, 0) := by
  obtain ⟨hg, _, _, _, _, _⟩ := nextT_ok h
  have hep := nx_epoch h
  have hon' := stays_on hon hst
  have hl := leafAt_on hg hs hon
  have hl' := leafAt_on (nx_good h) hs hon'
  have he := goodE_iff.1 (roster_on (goodTree_iff.1 hg).2.2.2.2.2.1 hs hon).1
  have hsn := ((goodTree_iff.1 hg).2.2.2.2.2.2.2 s hs).2.1
  have ha : ahead (withB (standAt t who s) x).Leaf 1 = (keyN (nextT t b).t (leaf s), 0) := by
    show ahead (leafAt (ent t.Roster s) t.Epoch).1 1 = _
    rw [keyN_leaf _ hs, hl, hl', hst]
    unfold ahead
    rw [if_pos (good_iff.2 ⟨by simp only; omega, by simp only; omega, by simp only; omega, by simp only; omega⟩), if_pos ⟨by omega, by simp only; omega⟩]
    simp only [Prod.mk.injEq, Key.mk.injEq, true_and, and_true]
    omega
  unfold followM
  rw [ha]
  have hup := follow_up h hs hon' (withB (standAt t who s) x) rfl 3 0 (pathK t s) rfl fun j hj => by
    rw [if_neg (by omega), pathK, get_make _ _ (by omega) (by omega), Int.toNat_natCast]
  have hup2 : upP (followStep (withB (standAt t who s) x) (msgOf t b)) (withB (standAt t who s) x).Slot 3 0 (withB (standAt t who s) x).Path (leaf (withB (standAt t who s) x).Slot) (keyN (nextT t b).t (leaf s)) = (pathK (nextT t b).t s, 0) := hup
  simp only [decide_true, cond_true, hup2]
  show ((⟨_, _, _, _, _, _, _, _⟩ : Member), (0 : Int)) = (⟨_, _, _, _, _, _, _, _⟩, 0)
  rw [keyN_leaf _ hs]
  rfl
theorem enter_up {s : Nat} (hs : s < 64) (hj : ∃ x ∈ (nextT t b).joined, x.Slot = s) (hon : isOn (nextT t b).t.Roster s = true) (m : Member) (hm : m.Slot = s) (hml : m.Leaf = keyN (nextT t b).t (leaf s)) : ∀ (d i : Nat) (p : Path), i + d = 3 → (∀ j : Nat, j < i → Arr.get p (j : Int) = keyN (nextT t b).t (pathAt s j)) →
    upP (enterStep m (msgOf t b)) m.Slot d i p (belowAt s i) (keyN (nextT t b).t (belowAt s i)) = (pathK (nextT t b).t s, 0)
  | 0, i, p, hi, hp => by
    have : i = 3 := by omega
    subst this
    simp only [upP]
    congr 1
    refine arr_ext fun j h0 h1 => ?_
    obtain ⟨k, rfl⟩ := Int.eq_ofNat_of_zero_le h0
    obtain ⟨v, hv, hv2, _⟩ := path_at hs k (by omega)
    rw [hp k (by omega), pathK, get_make _ _ h0 h1, Int.toNat_natCast, hv, keyN_inner _ hv2]
  | d + 1, i, p, hi, hp => by
    obtain ⟨v, hv, hv2, _⟩ := path_at hs i (by omega)
    have hgl := good_leafK (nx_good h) hs hon
    have hst : enterStep m (msgOf t b) p (i : Int) (belowAt s i) (keyN (nextT t b).t (belowAt s i)) = (keyN (nextT t b).t (pathAt s i), 0) := by
      unfold enterStep
      rw [hm, pathG_at hs i (by omega), hml]
      cases hin : inB (replaced (nextT t b).left) (pathAt (s : Int) i) with
      | true =>
        have hup := msg_up h hs hon i (by omega) hin
        by_cases hi0 : i = 0
        · subst hi0
          have : openI (msgOf t b) (pathAt s 0) (leaf s) (keyN (nextT t b).t (leaf s)) = (keyN (nextT t b).t (pathAt s 0), 0) := hup
          rw [this]; rfl
        · have hno : firstB (msgOf t b) (pathAt s i) (leaf s) = none := find_no fun x hx h1 h2 => by
            rcases items_mem.1 hx with ⟨w, hw, _, j, hj4, _, rfl⟩ | ⟨x', hx', j, hj3, hnin, rfl⟩
            · have e1 : (w : Int) = pathAt s i := h1
              have e2 : child w j = leaf s := h2
              rw [leaf_in hs] at e2
              unfold child at e2
              rw [if_pos ⟨by omega, by omega, by omega, by omega⟩] at e2
              have : pathAt (s : Int) i ≤ 4 := by
                unfold pathAt
                rw [if_neg hi0]
                split <;> omega
              omega
            · have e1 : Arr.get (pathG x'.Slot) (j : Int) = pathAt s i := h1
              rw [e1, hin] at hnin; cases hnin
          unfold openI at hup ⊢
          rw [hno]
          simpa using hup
      | false =>
        obtain ⟨x, hx, hxs⟩ := hj
        have hmem : itemOf (nextT t b).t (pathAt s i) (leaf s) ∈ (msgOf t b).Items := items_mem.2 (.inr ⟨x, hx, i, by omega, by rw [hxs, pathG_at hs i (by omega)]; exact hin, by rw [hxs, pathG_at hs i (by omega)]⟩)
        have : openI (msgOf t b) (pathAt s i) (leaf s) (keyN (nextT t b).t (leaf s)) = (keyN (nextT t b).t (pathAt s i), 0) := by
          unfold openI
          rw [msg_find hmem]
          exact open_item (by rw [hv]; exact good_inner (nx_good h) hv2) hgl
        rw [this]; rfl
    simp only [upP, hst, decide_true, cond_true]
    have hpg : Arr.get (pathG m.Slot) (i : Int) = belowAt s (i + 1) := by rw [hm, pathG_at hs i (by omega)]; rfl
    rw [hpg]
    refine enter_up hs hj hon m hm hml d (i + 1) _ (by omega) fun j hj2 => ?_
    rw [get_put _ _ _ _ (by omega) (by omega) (by omega)]
    by_cases e : i = j
    · subst e; rw [if_pos rfl]
    · rw [if_neg (by omega), hp j (by omega)]
theorem enterM_joins {s : Nat} (hs : s < 64) (hj : ∃ x ∈ (nextT t b).joined, x.Slot = s) (hon : isOn (nextT t b).t.Roster s = true) (who : Int) :
    enterM (bareOf (standAt (nextT t b).t who s)) (msgOf t b) = (standAt (nextT t b).t who s, 0) := by
  have hup := enter_up h hs hj hon (bareOf (standAt (nextT t b).t who s)) rfl (keyN_leaf _ hs).symm 3 0 zeroP rfl fun j hj => by omega
  have hup2 : upP (enterStep (bareOf (standAt (nextT t b).t who s)) (msgOf t b)) (bareOf (standAt (nextT t b).t who s)).Slot 3 0 (bareOf (standAt (nextT t b).t who s)).Path (leaf (bareOf (standAt (nextT t b).t who s)).Slot) (bareOf (standAt (nextT t b).t who s)).Leaf = (pathK (nextT t b).t s, 0) := by
    rw [← hup]
    show upP _ _ 3 0 zeroP (leaf s) (leafAt (ent (nextT t b).t.Roster s) (nextT t b).t.Epoch).1 = upP _ _ 3 0 zeroP (leaf s) (keyN (nextT t b).t (leaf s))
    rw [keyN_leaf _ hs]
  unfold enterM
  simp only [hup2, decide_true, cond_true]
  rfl

/-! ### The message is right -/
omit h in
theorem on_child {v : Int} (hb : belowR (nextT t b).t.Roster v = true) (hv : 21 ≤ v) (hv2 : v < 85) : ∃ s : Nat, s < 64 ∧ v = leaf s ∧ isOn (nextT t b).t.Roster s = true := by
  obtain ⟨s, hs, hb⟩ := anyN_iff.1 hb
  simp only [Bool.and_eq_true] at hb
  obtain ⟨k, hk⟩ := Int.eq_ofNat_of_zero_le (show 0 ≤ v - 21 by omega)
  have hvk : v = ((21 + k : Nat) : Int) := by omega
  have := allN_iff.1 (allN_iff.1 below_leaf k (by omega)) s hs
  simp only [decide_eq_true_eq] at this
  rw [hvk, this] at hb
  simp only [decide_eq_true_eq] at hb
  obtain ⟨h1, rfl⟩ := hb
  exact ⟨k, hs, by rw [leaf_in hs]; omega, h1⟩
theorem good_child {v : Nat} {i : Nat} (hv : v < 21) (hi : i < 4) (hb : belowR (nextT t b).t.Roster (child v i) = true) : good (keyN (nextT t b).t (child v i)) = true := by
  have hc : child v i = ((4 * v + 1 + i : Nat) : Int) := by unfold child; rw [if_pos ⟨by omega, by omega, by omega, by omega⟩]; omega
  by_cases hlt : 4 * v + 1 + i < 21
  · rw [hc]; exact good_inner (nx_good h) hlt
  · obtain ⟨s, hs, he, hon⟩ := on_child hb (by omega) (by omega)
    rw [he]; exact good_leafK (nx_good h) hs hon
theorem joined_on {x : Co.Seat} (hx : x ∈ (nextT t b).joined) : ∃ s : Nat, s < 64 ∧ x.Slot = s ∧ isOn (nextT t b).t.Roster s = true ∧ (ent (nextT t b).t.Roster s).Who = x.Who ∧ (ent (nextT t b).t.Roster s).Since = t.Epoch + 1 := by
  obtain ⟨i, s, a1, a2, hs, a3, a4, _⟩ := nx_joined_at h hx
  have := nx_room h
  exact ⟨s, hs, a3, isOn_iff.2 (by rw [a4]; simp only; omega), by rw [a4], by rw [a4]⟩
omit h in
theorem child_below : allN 21 (fun v => allN 4 fun i => below v (child v i) && !decide (child v i = v)) = true := by decide +kernel
theorem goodItem_msg {x : Co.Item} (hx : x ∈ items (nextT t b).t (nextT t b).left (nextT t b).joined) : goodItem x = true := by
  rcases items_mem.1 hx with ⟨v, hv, _, i, hi, hb, rfl⟩ | ⟨s', hs', i, hi, _, rfl⟩
  · have h1 := good_child h hv hi hb
    have h2 := allN_iff.1 (allN_iff.1 child_below v hv) i hi
    simp only [Bool.and_eq_true, Bool.not_eq_true', decide_eq_false_iff_not] at h2
    have h3 : betw (v : Int) 0 20 = true := betw_iff.2 (by omega)
    have h4 : good (keyN (nextT t b).t v) = true := good_inner (nx_good h) hv
    unfold goodItem itemOf goodBox
    simp only [h3, h2.1, h2.2, decide_false, Bool.not_false, Bool.true_and]
    rw [show good (ofT (nextT t b).t (child v i)).1 = true from h1, show good (ofT (nextT t b).t (v : Int)).1 = true from h4]; rfl
  · obtain ⟨s, hs, he, hon, _⟩ := joined_on h hs'
    obtain ⟨v, hv, hv2, _, _, hb⟩ := path_at hs i hi
    have h1 := good_leafK (nx_good h) hs hon
    have h3 : betw (v : Int) 0 20 = true := betw_iff.2 (by omega)
    have h4 : good (keyN (nextT t b).t v) = true := good_inner (nx_good h) hv2
    have h5 : ¬ leaf (s : Int) = (v : Int) := by rw [leaf_in hs]; omega
    rw [hv] at hb
    unfold goodItem itemOf goodBox
    rw [he, pathG_at hs i hi, hv]
    simp only [h3, hb, h5, decide_false, Bool.not_false, Bool.true_and]
    rw [show good (ofT (nextT t b).t (leaf (s : Int))).1 = true from h1, show good (ofT (nextT t b).t (v : Int)).1 = true from h4]; rfl
theorem left_at {x : Co.Seat} (hx : x ∈ (nextT t b).left) : x.Who ∈ b.Leaves ∧ ∃ s : Nat, s < 64 ∧ x.Slot = s ∧ isOn t.Roster s = true ∧ (ent t.Roster s).Who = x.Who := by
  rw [nx_left h] at hx
  obtain ⟨w, hw, rfl⟩ := List.mem_map.1 hx
  obtain ⟨s, hs, he, hon, hwho⟩ := (nx_leaves h).2 w hw
  exact ⟨hw, s, hs, he, hon, hwho⟩
theorem left_of {w : Int} (hw : w ∈ b.Leaves) : ∃ x ∈ (nextT t b).left, x.Who = w := by
  rw [nx_left h]
  exact ⟨_, List.mem_map.2 ⟨w, hw, rfl⟩, rfl⟩
omit h in
theorem joinItems_len (n : Tree) (m s : Int) : (joinItems n m s).length ≤ 3 := by
  unfold joinItems
  rw [List.length_map]
  have := List.length_filter_le (fun (i : Nat) => !inB m (Arr.get (pathG s) (i : Int))) (List.range 3)
  simpa using this
omit h in
theorem flat_len (n : Tree) (m : Int) : ∀ l : List Co.Seat, (l.flatMap fun s => joinItems n m s.Slot).length ≤ 3 * l.length
  | [] => by simp
  | s :: l => by
    have := joinItems_len n m s.Slot
    have := flat_len n m l
    simp only [List.flatMap_cons, List.length_append, List.length_cons]; omega
theorem items_len : (msgOf t b).Items.length ≤ 276 := by
  have h1 := itemsUp_len (nextT t b).t (replaced (nextT t b).left) 21
  have h2 := flat_len (nextT t b).t (replaced (nextT t b).left) (nextT t b).joined
  have h3 := nextT_joined h
  show (items _ _ _).length ≤ 276
  unfold items
  rw [List.length_append]; omega
theorem goodRekey_msg : goodRekey (msgOf t b) = true := by
  have hep := nx_epoch h
  have hlen := nextT_joined h
  obtain ⟨hg, _, hfi, _, _, _⟩ := nextT_ok h
  have h1 : betw (msgOf t b).Epoch 1 200 = true := betw_iff.2 (by show 1 ≤ (nextT t b).t.Epoch ∧ (nextT t b).t.Epoch ≤ 200; omega)
  have h2 : goodSeats (msgOf t b).Leaves = true := by
    unfold goodSeats
    rw [Bool.and_eq_true]
    refine ⟨List.all_eq_true.2 fun x hx => ?_, by simp only [decide_eq_true_eq]; show (nextT t b).left.length ≤ 64; omega⟩
    obtain ⟨_, s, hs, e1, hon, e2⟩ := left_at h hx
    have := goodE_iff.1 (roster_on (goodTree_iff.1 hg).2.2.2.2.2.1 hs hon).1
    unfold goodSeat
    rw [betw_iff.2 (by omega), betw_iff.2 (by omega)]; rfl
  have h3 : goodSeats (msgOf t b).Joins = true := by
    unfold goodSeats
    rw [Bool.and_eq_true]
    refine ⟨List.all_eq_true.2 fun x hx => ?_, by simp only [decide_eq_true_eq]; show (nextT t b).joined.length ≤ 64; omega⟩
    obtain ⟨i, s, a1, a2, hs, a3, a4, _⟩ := nx_joined_at h hx
    have := (nx_joins h).2 x.Who (List.mem_of_getElem? a1)
    unfold goodSeat
    rw [betw_iff.2 (by omega), betw_iff.2 (by omega)]; rfl
  have h4 : decide ((msgOf t b).Items.length ≤ 1536) = true := decide_eq_true (by have := items_len h; omega)
  have h5 : (msgOf t b).Items.all goodItem = true := List.all_eq_true.2 fun x hx => goodItem_msg h hx
  unfold goodRekey
  rw [h1, h2, h3, h4, h5]; rfl

/-! ### The message at devices -/
omit h in
theorem kind_withB {s : Nat} (hg : goodTree t = true) (hs : s < 64) (hon : isOn t.Roster s = true) {x : Int} (hx : x = 0 ∨ t.Epoch + 1 ≤ x ∧ x ≤ 200) : kind (withB (standAt t (ent t.Roster s).Who s) x) = 3 := by
  have h1 : ¬ withB (standAt t (ent t.Roster s).Who s) x = zeroM := fun h => by
    have := congrArg Member.Has h
    simp [withB, standAt] at this
    cases this
  have hc : calmB (withB (standAt t (ent t.Roster s).Who s) x) = true := by
    show (decide (x = 0) || betw x (t.Epoch + 1) 200) = true
    rcases hx with h | h
    · simp [h]
    · simp [betw_iff.2 h]
  unfold kind
  rw [decide_eq_false h1, show cardOf (withB (standAt t (ent t.Roster s).Who s) x) = cardOf (standAt t (ent t.Roster s).Who s) from rfl, stand_card hg hs hon, hc]
  show (bif goodPath (pathK t s) then (3 : Int) else -1) = 3
  rw [path_good hg hs]; rfl
/-- Who stays follows. -/
theorem apply_stays {s : Nat} (hs : s < 64) (hon : isOn t.Roster s = true) (hst : ent (nextT t b).t.Roster s = ent t.Roster s) (hno : (ent t.Roster s).Who ∉ b.Leaves) {x : Int} (hx : x = 0 ∨ t.Epoch + 1 ≤ x ∧ x ≤ 200) :
    applyM (withB (standAt t (ent t.Roster s).Who s) x) (msgOf t b) = (withB (standAt (nextT t b).t (ent t.Roster s).Who s) (if x ≤ t.Epoch + 1 then 0 else x), 0) := by
  obtain ⟨hg, _, _, _, _, _⟩ := nextT_ok h
  have hep := nx_epoch h
  have hk := kind_withB hg hs hon hx
  have hre : (msgOf t b).Epoch = t.Epoch + 1 := hep.1
  have hme : (withB (standAt t (ent t.Roster s).Who s) x).Epoch = t.Epoch := rfl
  have hany : (msgOf t b).Leaves.any (fun y => decide (y.Who = (withB (standAt t (ent t.Roster s).Who s) x).Who)) = false := by
    refine List.any_eq_false.2 fun y hy => ?_
    simp only [decide_eq_true_eq]
    intro e
    have := (left_at h hy).1
    rw [e] at this
    exact hno this
  have hn : nextM (withB (standAt t (ent t.Roster s).Who s) x) (msgOf t b) = (withB (standAt (nextT t b).t (ent t.Roster s).Who s) x, 0) := by
    unfold nextM
    rw [hre, hme, decide_eq_false (by omega), hany]
    exact followM_stays h hs hon hst _ x
  unfold applyM
  rw [hk, goodRekey_msg h, hre, hme, hn]
  have c1 : decide (t.Epoch + 1 < t.Epoch) = false := decide_eq_false (by omega)
  have c2 : decide (t.Epoch + 1 = t.Epoch) = false := decide_eq_false (by omega)
  have c3 : decide (t.Epoch + 1 < t.Epoch + 1) = false := decide_eq_false (by omega)
  rw [c1, c2, c3]
  show ((calm (withB (standAt (nextT t b).t (ent t.Roster s).Who s) x)), (0 : Int)) = _
  congr 1
  have hb : (withB (standAt (nextT t b).t (ent t.Roster s).Who s) x).Behind = x := rfl
  have he : (withB (standAt (nextT t b).t (ent t.Roster s).Who s) x).Epoch = t.Epoch + 1 := hep.1
  rw [calm_eq, hb, he]
  by_cases hle : x ≤ t.Epoch + 1
  · rw [if_pos hle, if_pos hle]; rfl
  · rw [if_neg hle, if_neg hle]
/-- Who left is out. -/
theorem apply_left {s : Nat} (hs : s < 64) (hon : isOn t.Roster s = true) (hl : (ent t.Roster s).Who ∈ b.Leaves) {x : Int} (hx : x = 0 ∨ t.Epoch + 1 ≤ x ∧ x ≤ 200) :
    applyM (withB (standAt t (ent t.Roster s).Who s) x) (msgOf t b) = (outM (ent t.Roster s).Who (nextT t b).t.Epoch, 0) := by
  obtain ⟨hg, _, _, _, _, _⟩ := nextT_ok h
  have hep := nx_epoch h
  have hk := kind_withB hg hs hon hx
  have hre : (msgOf t b).Epoch = t.Epoch + 1 := hep.1
  have hme : (withB (standAt t (ent t.Roster s).Who s) x).Epoch = t.Epoch := rfl
  have hany : (msgOf t b).Leaves.any (fun y => decide (y.Who = (withB (standAt t (ent t.Roster s).Who s) x).Who)) = true := by
    obtain ⟨y, hy, he⟩ := left_of h hl
    exact List.any_eq_true.2 ⟨y, hy, decide_eq_true he⟩
  have hn : nextM (withB (standAt t (ent t.Roster s).Who s) x) (msgOf t b) = (outM (ent t.Roster s).Who (t.Epoch + 1), 0) := by
    unfold nextM
    rw [hre, hme, decide_eq_false (by omega), hany]
    rfl
  unfold applyM
  rw [hk, goodRekey_msg h, hre, hme, hn]
  have c1 : decide (t.Epoch + 1 < t.Epoch) = false := decide_eq_false (by omega)
  have c2 : decide (t.Epoch + 1 = t.Epoch) = false := decide_eq_false (by omega)
  have c3 : decide (t.Epoch + 1 < t.Epoch + 1) = false := decide_eq_false (by omega)
  rw [c1, c2, c3, hep.1]
  show ((calm (outM (ent t.Roster s).Who (t.Epoch + 1))), (0 : Int)) = _
  have hb : (outM (ent t.Roster s).Who (t.Epoch + 1)).Behind = 0 := rfl
  have he : (outM (ent t.Roster s).Who (t.Epoch + 1)).Epoch = t.Epoch + 1 := rfl
  rw [calm_eq, hb, he, if_pos (by omega)]
  rfl
/-- Who joined enters. -/
theorem apply_joins {s : Nat} (hs : s < 64) (hj : (⟨(ent (nextT t b).t.Roster s).Who, s⟩ : Co.Seat) ∈ (nextT t b).joined) :
    applyM (bareOf (standAt (nextT t b).t (ent (nextT t b).t.Roster s).Who s)) (msgOf t b) = (standAt (nextT t b).t (ent (nextT t b).t.Roster s).Who s, 0) := by
  have hep := nx_epoch h
  have hgn := nx_good h
  have hon : isOn (nextT t b).t.Roster s = true := by
    obtain ⟨k, hk, e1, hon, _⟩ := joined_on h hj
    have : k = s := by simp only at e1; omega
    rw [← this]; exact hon
  have hk := kind_bare hgn hs hon
  have hre : (msgOf t b).Epoch = (nextT t b).t.Epoch := rfl
  have hme : (bareOf (standAt (nextT t b).t (ent (nextT t b).t.Roster s).Who s)).Epoch = (nextT t b).t.Epoch := rfl
  have hany : (msgOf t b).Joins.any (fun y => decide ((⟨(bareOf (standAt (nextT t b).t (ent (nextT t b).t.Roster s).Who s)).Who, (bareOf (standAt (nextT t b).t (ent (nextT t b).t.Roster s).Who s)).Slot⟩ : Co.Seat) = y)) = true :=
    List.any_eq_true.2 ⟨_, hj, decide_eq_true rfl⟩
  have hn : nextM (bareOf (standAt (nextT t b).t (ent (nextT t b).t.Roster s).Who s)) (msgOf t b) = (standAt (nextT t b).t (ent (nextT t b).t.Roster s).Who s, 0) := by
    unfold nextM
    rw [hre, hme, decide_eq_true rfl, hany]
    exact enterM_joins h hs ⟨_, hj, rfl⟩ hon _
  unfold applyM
  rw [hk, goodRekey_msg h, hre, hme, hn]
  have c1 : decide ((nextT t b).t.Epoch < (nextT t b).t.Epoch) = false := decide_eq_false (by omega)
  have c3 : decide ((nextT t b).t.Epoch + 1 < (nextT t b).t.Epoch) = false := decide_eq_false (by omega)
  rw [c1, c3]
  show ((calm (standAt (nextT t b).t (ent (nextT t b).t.Roster s).Who s)), (0 : Int)) = _
  have hb : (standAt (nextT t b).t (ent (nextT t b).t.Roster s).Who s).Behind = 0 := rfl
  have he : (standAt (nextT t b).t (ent (nextT t b).t.Roster s).Who s).Epoch = t.Epoch + 1 := hep.1
  rw [calm_eq, hb, he, if_pos (by omega)]
  rfl
end
end Go.Co.N
end

section
set_option maxRecDepth 100000
noncomputable section
namespace Go.Co.N
open Go Go.Co
def g_law17_DataApart_r1 : (Int × List Tree × List Batch × Int × Int × Unit) × Unit × Unit → Option (((Int × List Tree × List Batch × Int × Int × Unit) × Unit × Unit) ⊕ ((Int × List Tree × Unit) × Unit × Unit))
  | ((a, b, c, d, e, _), _, _) => bif decide (e < d) then bif decide (0 ≤ e) && decide (e < (↑(List.length c) : Int)) then bif decide (0 ≤ IntKind.wrap IntKind.i64 ((↑(List.length b) : Int) - 1)) && decide (IntKind.wrap IntKind.i64 ((↑(List.length b) : Int) - 1) < (↑(List.length b) : Int)) then bif decide ((nextR (lat b (IntKind.wrap IntKind.i64 ((↑(List.length b) : Int) - 1))) (lat c e)).snd.snd = 0) then bif decide ((List.length b + 1) * 1888 ≤ 140737488355328) then some (Sum.inl ((a, List.append b [(nextR (lat b (IntKind.wrap IntKind.i64 ((↑(List.length b) : Int) - 1))) (lat c e)).fst], c, d, IntKind.wrap IntKind.i64 (e + 1), ()), (), ())) else none else some (Sum.inl ((a, b, c, d, IntKind.wrap IntKind.i64 (e + 1), ()), (), ())) else none else none else some (Sum.inr ((a, b, ()), (), ()))
def g_law17_DataApart_r3 : (Int × List Tree × Int × Unit × Unit × List Tree × Int × Int × List Tree × Int × Int × Unit) × (Member × Sealed × Unit) × Unit → Option (((Int × List Tree × Int × Unit × Unit × List Tree × Int × Int × List Tree × Int × Int × Unit) × (Member × Sealed × Unit) × Unit) ⊕ ((Bool × Unit) × Unit × Unit ⊕ (Int × List Tree × Unit × Unit × List Tree × Int × Int × Unit) × (Member × Sealed × Unit) × Unit))
  | ((a, b, c, _, _, d, e, f, g, h, i, _), (j, k, _), _) => bif decide (i < h) then bif decide (0 ≤ i) && decide (i < (↑(List.length g) : Int)) then bif !decide ((stand (lat g i) a).snd = 0) then some (Sum.inl ((a, b, c, (), (), d, e, f, g, h, IntKind.wrap IntKind.i64 (i + 1), ()), (j, k, ()), ())) else bif !decide (decide ((openM (stand (lat g i) a).fst k).snd = 0) = decide (c = i)) then some (Sum.inr (Sum.inl ((false, ()), (), ()))) else bif !decide (decide ((openM (stand (lat g i) a).fst k).snd = 21) = decide (c < i)) then some (Sum.inr (Sum.inl ((false, ()), (), ()))) else bif !decide (decide ((openM (stand (lat g i) a).fst k).snd = 32) = decide (i < c)) then some (Sum.inr (Sum.inl ((false, ()), (), ()))) else bif !decide (decide ((openM (stand (lat g i) a).fst k).fst = bytesOf [120]) = decide (c = i)) then some (Sum.inr (Sum.inl ((false, ()), (), ()))) else some (Sum.inl ((a, b, c, (), (), d, e, f, g, h, IntKind.wrap IntKind.i64 (i + 1), ()), (j, k, ()), ())) else none else some (Sum.inr (Sum.inr ((a, b, (), (), d, e, f, ()), (j, k, ()), ())))
def g_law17_DataApart_r2 : (Int × List Tree × List Tree × Int × Int × Unit) × Unit × Unit → Option (((Int × List Tree × List Tree × Int × Int × Unit) × Unit × Unit) ⊕ ((Bool × Unit) × Unit × Unit ⊕ Unit × Unit × Unit))
  | ((a, b, c, d, e, _), _, _) => bif decide (e < d) then bif decide (0 ≤ e) && decide (e < (↑(List.length c) : Int)) then bif !decide ((stand (lat c e) a).snd = 0) then some (Sum.inl ((a, b, c, d, IntKind.wrap IntKind.i64 (e + 1), ()), (), ())) else bif !decide ((sealM (stand (lat c e) a).fst (bytesOf [120])).snd = 0) then some (Sum.inr (Sum.inl ((false, ()), (), ()))) else Option.bind (lfp g_law17_DataApart_r3 ((a, b, e, (), (), c, d, e, b, (↑(List.length b) : Int), 0, ()), ((stand (lat c e) a).fst, (sealM (stand (lat c e) a).fst (bytesOf [120])).fst, ()), ())) fun z => Sum.elim (fun x => some (Sum.inr (Sum.inl ((x.fst.fst, ()), (), ())))) (fun z => bif !decide ((openM (Member.mk z.snd.fst.fst.Who 0 z.snd.fst.fst.Epoch (St.zero St.key) (Vector.replicate 3 (St.zero St.key)) false true 0) z.snd.fst.snd.fst).snd = 20) then some (Sum.inr (Sum.inl ((false, ()), (), ()))) else some (Sum.inl ((z.fst.fst, z.fst.snd.fst, z.fst.snd.snd.snd.snd.fst, z.fst.snd.snd.snd.snd.snd.fst, IntKind.wrap IntKind.i64 (z.fst.snd.snd.snd.snd.snd.snd.fst + 1), ()), (), ()))) z else none else some (Sum.inr (Sum.inr ((), (), ())))
/-- coterie/coterielaw17.DataApart -/
def g_law17_DataApart : Tree × List Batch × Int × Unit → Option (Bool × Unit)
  | (a, b, c, _) => Option.bind (lfp g_law17_DataApart_r1 ((c, [a], b, (↑(List.length b) : Int), 0, ()), (), ())) fun z => Option.bind (lfp g_law17_DataApart_r2 ((z.fst.fst, z.fst.snd.fst, z.fst.snd.fst, (↑(List.length z.fst.snd.fst) : Int), 0, ()), (), ())) fun z => Sum.elim (fun x => some (x.fst.fst, ())) (fun _ => some (true, ())) z
end Go.Co.N
end
end

section
namespace Go.Co.N
open Go Go.Co

theorem lat_app_lt {α : Type} [Inhabited α] (l : List α) (y : α) {i : Nat} (h : i < l.length) : lat (l ++ [y]) (i : Int) = lat l (i : Int) := by
  rw [lat_nat _ _ (by simp; omega), lat_nat _ _ h, List.getElem_append_left h]
theorem lat_app_last {α : Type} [Inhabited α] (l : List α) (y : α) : lat (l ++ [y]) (l.length : Int) = y := by
  rw [lat_nat _ _ (by simp)]; simp
/-- Trees of a row: each one epoch on. -/
structure Chain (t : Tree) (a : List Tree) : Prop where
  ne : 1 ≤ a.length
  ep : ∀ i : Nat, i < a.length → (lat a (i : Int)).Epoch = t.Epoch + i
  le : a.length = 1 ∨ (0 ≤ t.Epoch ∧ t.Epoch + a.length ≤ 201)
theorem chain_one (t : Tree) : Chain t [t] := ⟨by simp, fun i hi => by
  have : i = 0 := by simp at hi; exact hi
  subst this; simp [lat], .inl rfl⟩
theorem nextR_ok {t : Tree} {b : Batch} (h : (nextR t b).2.2 = 0) : (nextR t b).1.Epoch = t.Epoch + 1 ∧ 0 ≤ t.Epoch ∧ t.Epoch < 200 := by
  have h0 : (nextT t b).e = 0 := by
    by_cases h0 : (nextT t b).e = 0
    · exact h0
    · have : (nextR t b).2.2 = (nextT t b).e := by unfold nextR; rw [decide_eq_false h0]; rfl
      exact this ▸ h
  have h1 : (nextR t b).1 = (nextT t b).t := by unfold nextR; rw [decide_eq_true h0]; rfl
  rw [h1]
  by_cases hg : goodTree t = true
  case neg => simp [nextT, hg] at h0
  by_cases he : t.Epoch = 200
  case pos => simp [nextT, hg, he] at h0
  by_cases hf : fits t.Roster b = 0
  case neg => simp [nextT, hg, he, hf] at h0
  by_cases hs : (stepTurn t b).2.2 = 0
  case neg => simp [nextT, hg, he, hf, hs] at h0
  by_cases hm : (stepMove t b).e = 0
  case neg => simp [nextT, hg, he, hf, hs, hm] at h0
  obtain ⟨g1, g2, _⟩ := goodTree_iff.1 hg
  refine ⟨?_, g1, by omega⟩
  simp [nextT, hg, he, hf, hs, hm]
theorem Chain.more {t : Tree} {a : List Tree} (h : Chain t a) {b : Batch} {last : Tree} (hl : lat a ((a.length : Int) - 1) = last) (hn : (nextR last b).2.2 = 0) : Chain t (a ++ [(nextR last b).1]) ∧ a.length ≤ 200 := by
  obtain ⟨n1, n2, n3⟩ := nextR_ok hn
  have h1 := h.ne
  have hle := h.ep (a.length - 1) (by omega)
  rw [show ((a.length - 1 : Nat) : Int) = (a.length : Int) - 1 by omega, hl] at hle
  have h3 := h.le
  refine ⟨⟨by simp, fun i hi => ?_, ?_⟩, by omega⟩
  · by_cases hlt : i < a.length
    · rw [lat_app_lt _ _ hlt]; exact h.ep i hlt
    · have : i = a.length := by simp at hi; omega
      subst this
      rw [lat_app_last, n1]; omega
  · right
    simp only [List.length_append, List.length_cons, List.length_nil]
    omega
theorem apart_loop1 (t : Tree) (who : Int) (script : List Batch) (hs : script.length ≤ 140737488355328) : ∀ (d i : Nat) (a : List Tree), i + d = script.length → Chain t a →
    ∃ a', Chain t a' ∧ lfp g_law17_DataApart_r1 ((who, a, script, (script.length : Int), (i : Int), ()), (), ()) = some ((who, a', ()), (), ()) := by
  intro d
  induction d with
  | zero =>
    intro i a hi hc
    refine ⟨a, hc, lfp_inr ?_⟩
    have : ¬ (i : Int) < (script.length : Int) := by omega
    simp only [g_law17_DataApart_r1, this, decide_false, cond_false]
  | succ d ih =>
    intro i a hi hc
    have h1 : (i : Int) < (script.length : Int) := by omega
    have h0 : (0 : Int) ≤ (i : Int) := by omega
    have hw : IntKind.i64.wrap ((i : Int) + 1) = ((i + 1 : Nat) : Int) := by rw [i64_in _ (by omega)]; omega
    have hne := hc.ne
    have hlen : a.length ≤ 201 := by have := hc.le; omega
    have hw2 : IntKind.i64.wrap ((a.length : Int) - 1) = (a.length : Int) - 1 := i64_in _ (by omega)
    have p1 : (0 : Int) ≤ (a.length : Int) - 1 := by omega
    have p2 : (a.length : Int) - 1 < (a.length : Int) := by omega
    by_cases hn : (nextR (lat a ((a.length : Int) - 1)) (lat script (i : Int))).2.2 = 0
    · obtain ⟨hc', hle⟩ := hc.more rfl hn
      obtain ⟨a', g1, g2⟩ := ih (i + 1) _ (by omega) hc'
      refine ⟨a', g1, ?_⟩
      rw [← g2]
      apply lfp_inl
      have hb : (a.length + 1) * 1888 ≤ 140737488355328 := by omega
      simp only [g_law17_DataApart_r1, h1, h0, hw, hw2, p1, p2, hn, hb, decide_true, Bool.and_self, cond_true]
      rfl
    · obtain ⟨a', g1, g2⟩ := ih (i + 1) a (by omega) hc
      refine ⟨a', g1, ?_⟩
      rw [← g2]
      apply lfp_inl
      simp only [g_law17_DataApart_r1, h1, h0, hw, hw2, p1, p2, hn, decide_true, decide_false, Bool.and_self, cond_true, cond_false]

/-- Who stands. -/
theorem stand_is {t : Tree} {who : Int} (h : (stand t who).2 = 0) : ∃ s : Nat, s < 64 ∧ goodTree t = true ∧ isOn t.Roster s = true ∧ (ent t.Roster s).Who = who ∧ stand t who = (standAt t who s, 0) := by
  have hg : goodTree t = true := by
    cases h' : goodTree t with
    | true => rfl
    | false => simp [stand, h'] at h
  have hf : 0 ≤ findR t.Roster who := by
    by_cases h' : 0 ≤ findR t.Roster who
    · exact h'
    · simp [stand, hg, h'] at h
  obtain ⟨s, hs, he, hon, hw, _⟩ := findR_some hf
  exact ⟨s, hs, hg, hon, hw, by rw [stand_ok hg hf, he]⟩
theorem group_out {t : Tree} {who : Int} {s : Nat} (hs : s < 64) (hg : goodTree t = true) (hon : isOn t.Roster s = true) (hw : (ent t.Roster s).Who = who) : group (outM who t.Epoch) = (⟨0, 0⟩, 20) := by
  have he := stand_epoch hg hs hon
  have hr := goodE_iff.1 (roster_on (goodTree_iff.1 hg).2.2.2.2.2.1 hs hon).1
  have h1 : ¬ outM who t.Epoch = zeroM := fun h => by
    have := congrArg Member.Epoch h
    have : t.Epoch = 0 := this
    omega
  have a1 : betw who 0 255 = true := betw_iff.2 (by rw [← hw]; omega)
  have a2 : betw t.Epoch 1 200 = true := betw_iff.2 (by omega)
  have hk : kind (outM who t.Epoch) = 1 := by
    unfold kind
    rw [decide_eq_false h1]
    show (bif decide (outM who t.Epoch = outM who t.Epoch) && betw who 0 255 && betw t.Epoch 1 200 then (1 : Int) else -1) = 1
    rw [a1, a2, decide_eq_true rfl]; rfl
  unfold group; rw [hk]; rfl
theorem goodSealed_stand {t : Tree} {s : Nat} (hs : s < 64) (hg : goodTree t = true) (hon : isOn t.Roster s = true) {text : ByteArray} (hsz : text.size ≤ 64) : goodSealed ⟨t.Epoch, Arr.get t.Keys 0, text⟩ = true := by
  have hep := stand_epoch hg hs hon
  have hk' : good (Arr.get t.Keys 0) = true := (goodKeys_iff.1 (goodTree_iff.1 hg).2.2.2.2.1 0 (by omega)).1
  have hb : betw t.Epoch 1 200 = true := betw_iff.2 hep
  unfold goodSealed
  simp only [hb, hk', hsz, decide_true, Bool.and_self]
theorem x_ne : ¬ ByteArray.empty = bytesOf [120] := fun h => by
  have := congrArg ByteArray.size h
  revert this
  decide
theorem apart_in (t : Tree) (trees : List Tree) (hc : Chain t trees) (who : Int) (c : Nat) (hcl : c < trees.length) (s : Nat) (hs : s < 64) (hg : goodTree (lat trees (c : Int)) = true) (hon : isOn (lat trees (c : Int)).Roster s = true) (_ : (ent (lat trees (c : Int)).Roster s).Who = who) (hlen : trees.length ≤ 201) :
    lfp g_law17_DataApart_r3 ((who, trees, (c : Int), (), (), trees, (trees.length : Int), (c : Int), trees, (trees.length : Int), 0, ()), (standAt (lat trees (c : Int)) who s, ⟨(lat trees (c : Int)).Epoch, Arr.get (lat trees (c : Int)).Keys 0, bytesOf [120]⟩, ()), ())
      = some (.inr ((who, trees, (), (), trees, (trees.length : Int), (c : Int), ()), (standAt (lat trees (c : Int)) who s, ⟨(lat trees (c : Int)).Epoch, Arr.get (lat trees (c : Int)).Keys 0, bytesOf [120]⟩, ()), ())) := by
  rw [lfp_run' (fun i => ((who, trees, (c : Int), (), (), trees, (trees.length : Int), (c : Int), trees, (trees.length : Int), (i : Int), ()), (standAt (lat trees (c : Int)) who s, ⟨(lat trees (c : Int)).Epoch, Arr.get (lat trees (c : Int)).Keys 0, bytesOf [120]⟩, ()), ())) trees.length (by rfl) fun i hi => by
    have h1 : (i : Int) < (trees.length : Int) := by omega
    have h0 : (0 : Int) ≤ (i : Int) := by omega
    have hwr : IntKind.i64.wrap ((i : Int) + 1) = ((i + 1 : Nat) : Int) := wrap1 i (by omega)
    by_cases hst : (stand (lat trees (i : Int)) who).2 = 0
    case neg => simp only [g_law17_DataApart_r3, h1, h0, hwr, hst, decide_true, decide_false, Bool.and_self, Bool.not_false, cond_true]
    obtain ⟨s', hs', hg', hon', hw', he'⟩ := stand_is hst
    have hgr := group_stand hg' hs' hon'
    rw [hw'] at hgr
    have hgs : goodSealed ⟨(lat trees (c : Int)).Epoch, Arr.get (lat trees (c : Int)).Keys 0, bytesOf [120]⟩ = true := goodSealed_stand hs hg hon (by decide)
    have e1 := hc.ep i hi
    have e2 := hc.ep c hcl
    have hep : (standAt (lat trees (i : Int)) who s').Epoch = t.Epoch + i := e1
    have key : openM (standAt (lat trees (i : Int)) who s') ⟨(lat trees (c : Int)).Epoch, Arr.get (lat trees (c : Int)).Keys 0, bytesOf [120]⟩ = if c = i then (bytesOf [120], 0) else if c < i then (ByteArray.empty, 21) else (ByteArray.empty, 32) := by
      unfold openM
      rw [hgr, hgs, hep]
      simp only [decide_true, cond_true, e2]
      by_cases hci : c = i
      · subst hci
        have n1 : ¬ t.Epoch + (c : Int) < t.Epoch + (c : Int) := by omega
        simp only [n1, decide_false, decide_true, cond_false, cond_true, if_true]
      · by_cases hlt : c < i
        · have n1 : t.Epoch + (c : Int) < t.Epoch + (i : Int) := by omega
          simp only [n1, hci, hlt, decide_true, cond_true, if_true, if_false]
        · have n1 : ¬ t.Epoch + (c : Int) < t.Epoch + (i : Int) := by omega
          have n2 : t.Epoch + (i : Int) < t.Epoch + (c : Int) := by omega
          simp only [n1, n2, hci, hlt, decide_true, decide_false, cond_true, cond_false, if_false]
    simp only [g_law17_DataApart_r3, h1, h0, hwr, he', decide_true, Bool.and_self, Bool.not_true, cond_true, cond_false, key]
    by_cases hci : c = i
    · subst hci
      simp
    · by_cases hlt : c < i
      · have n1 : ¬ (c : Int) = (i : Int) := by omega
        have n2 : (c : Int) < (i : Int) := by omega
        have n3 : ¬ (i : Int) < (c : Int) := by omega
        simp [hci, hlt, n1, n3, x_ne]
      · have n1 : ¬ (c : Int) = (i : Int) := by omega
        have n2 : ¬ (c : Int) < (i : Int) := by omega
        have n3 : (i : Int) < (c : Int) := by omega
        have n4 : i < c := by omega
        simp [hci, hlt, n1, n2, n4, x_ne]]
  refine lfp_inr ?_
  have : ¬ (trees.length : Int) < (trees.length : Int) := by omega
  simp only [g_law17_DataApart_r3, this, decide_false, cond_false]
theorem eq_law17_DataApart : Eqs c_law17_DataApart g_law17_DataApart := Eqs.tot fun (t, script, who, _) hf => by
  change Tree at t
  change List Batch at script
  change Int at who
  have hl : script.length * 48 ≤ 140737488355328 := (Fine.list.1 hf.2.1).1
  obtain ⟨trees, hc, h1⟩ := apart_loop1 t who script (by omega) script.length 0 [t] (by omega) (chain_one t)
  have hlen : trees.length ≤ 201 := by
    rcases hc.le with h | h
    · omega
    · omega
  simp only [g_law17_DataApart]
  rw [show (0 : Int) = ((0 : Nat) : Int) from rfl, h1]
  simp only [Option.bind_some]
  rw [lfp_run' (fun i => ((who, trees, trees, (trees.length : Int), (i : Int), ()), (), ())) trees.length (by rfl) fun i hi => by
    have h1 : (i : Int) < (trees.length : Int) := by omega
    have h0 : (0 : Int) ≤ (i : Int) := by omega
    have hwr : IntKind.i64.wrap ((i : Int) + 1) = ((i + 1 : Nat) : Int) := wrap1 i (by omega)
    by_cases hst : (stand (lat trees (i : Int)) who).2 = 0
    case neg => simp only [g_law17_DataApart_r2, h1, h0, hwr, hst, decide_true, decide_false, Bool.and_self, Bool.not_false, cond_true]
    obtain ⟨s, hs, hg, hon, hw, he⟩ := stand_is hst
    have hgr := group_stand hg hs hon
    rw [hw] at hgr
    have hse : sealM (standAt (lat trees (i : Int)) who s) (bytesOf [120]) = (⟨(lat trees (i : Int)).Epoch, Arr.get (lat trees (i : Int)).Keys 0, bytesOf [120]⟩, 0) := by
      unfold sealM
      rw [hgr]
      rfl
    have hin := apart_in t trees hc who i hi s hs hg hon hw hlen
    have hout : openM (outM who (lat trees (i : Int)).Epoch) ⟨(lat trees (i : Int)).Epoch, Arr.get (lat trees (i : Int)).Keys 0, bytesOf [120]⟩ = (ByteArray.empty, 20) := by
      unfold openM
      rw [group_out hs hg hon hw]; rfl
    simp only [g_law17_DataApart_r2, h1, h0, hwr, he, hse, hin, decide_true, Bool.and_self, Bool.not_true, cond_true, cond_false, Option.bind_some, Sum.elim_inr]
    rw [show (Member.mk (standAt (lat trees (i : Int)) who s).Who 0 (standAt (lat trees (i : Int)) who s).Epoch (St.zero St.key) (Vector.replicate 3 (St.zero St.key)) false true 0) = outM who (lat trees (i : Int)).Epoch from rfl, hout]
    rfl]
  rw [lfp_inr (z := .inr ((), (), ())) (by
    have : ¬ (trees.length : Int) < (trees.length : Int) := by omega
    simp only [g_law17_DataApart_r2, this, decide_false, cond_false])]
  simp
end Go.Co.N
end

section
namespace Go.Co.N
open Go Go.Co

theorem eq_law15_three : Eqs c_law15_three g_law15_three := fun _ _ _ h => h
theorem eq_law15_lives : Eqs c_law15_lives g_law15_lives := fun _ _ _ h => h
theorem kind_seated {c : Card} (h : goodCard c = true) : kind ⟨c.Who, c.Slot, c.Epoch, c.Leaf, zeroP, false, false, 0⟩ = 2 := by
  have h0 := goodCard_epoch (m := ⟨c.Who, c.Slot, c.Epoch, c.Leaf, zeroP, false, false, 0⟩) h
  have h1 : ¬ (⟨c.Who, c.Slot, c.Epoch, c.Leaf, zeroP, false, false, 0⟩ : Member) = zeroM := fun e => by
    have := congrArg Member.Epoch e
    have : c.Epoch = 0 := this
    simp only at h0
    omega
  unfold kind
  rw [decide_eq_false h1, show goodCard (cardOf ⟨c.Who, c.Slot, c.Epoch, c.Leaf, zeroP, false, false, 0⟩) = true from h]
  show (bif decide (zeroP = zeroP) then (2 : Int) else -1) = 2
  simp
theorem eq_law15_MemberKinds : Eqs c_law15_MemberKinds g_law15_MemberKinds := Eqs.tot fun (m, c, _) _ => by
  change Member at m
  change Card at c
  simp only [g_law15_MemberKinds, decide_true, Bool.not_true, cond_false]
  by_cases h : goodCard c = true
  · have hs : seated c = (⟨c.Who, c.Slot, c.Epoch, c.Leaf, zeroP, false, false, 0⟩, 0) := by unfold seated; rw [h]; rfl
    simp only [hs, kind_seated h, decide_true, Bool.not_true, cond_true, cond_false]
  · have hs : seated c = (zeroM, 30) := by unfold seated; rw [Bool.eq_false_iff.2 h]; rfl
    rw [hs]; simp
/-- What a message may do. -/
theorem apply_cases (m : Member) (r : Rekey) : ((applyM m r).1 = m ∧ (applyM m r).2 ≠ 0) ∨
    (applyM m r = (withB m (max m.Behind r.Epoch), 22) ∧ m.Epoch < r.Epoch) ∨
    (applyM m r = (calm (nextM m r).1, 0) ∧ (nextM m r).2 = 0 ∧ goodRekey r = true ∧ m.Out = false ∧ goodCard (cardOf m) = true ∧ ((kind m = 2 ∧ m.Has = false ∧ m.Path = zeroP ∧ r.Epoch = m.Epoch) ∨ (kind m = 3 ∧ m.Has = true ∧ goodPath m.Path = true ∧ r.Epoch = m.Epoch + 1))) := by
  rcases kind_cases m with h | ⟨h, _⟩ | ⟨h, _⟩ | ⟨h, ho, hg, hc, hh, hp⟩ | ⟨h, ho, hg, hc, hh, hp⟩
  · left; simp [applyM, h]
  · left; simp [applyM, h]
  · left; simp [applyM, h]
  all_goals
    cases hr : goodRekey r with
    | false => left; simp [applyM, h, hr]
    | true =>
      by_cases h1 : r.Epoch < m.Epoch
      · left; simp [applyM, h, hr, h1]
      by_cases h2 : m.Epoch + 1 < r.Epoch
      · right; left
        have e1 : ¬ r.Epoch = m.Epoch := by omega
        refine ⟨?_, by omega⟩
        simp [applyM, h, hr, h1, h2, e1, withB]
      by_cases h3 : r.Epoch = m.Epoch
      · have e1 : ¬ m.Epoch + 1 < m.Epoch := by omega
        have e2 : ¬ m.Epoch < m.Epoch := by omega
        first
          | (by_cases h4 : (nextM m r).2 = 0
             · right; right
               exact ⟨by simp [applyM, h, hr, h3, h4, e1, e2], h4, rfl, ho, hg, .inl ⟨h, hh, hp, h3⟩⟩
             · left; simp [applyM, h, hr, h3, h4, e1, e2])
          | (left; simp [applyM, h, hr, h3, e2])
      · have e1 : m.Epoch < r.Epoch := by omega
        have e3 : r.Epoch = m.Epoch + 1 := by omega
        first
          | (right; left
             refine ⟨?_, by omega⟩
             simp [applyM, h, hr, h1, h2, h3, e1, withB]
             done)
          | (by_cases h4 : (nextM m r).2 = 0
             · right; right
               exact ⟨by simp [applyM, h, hr, h1, h2, h3, h4], h4, rfl, ho, hg, .inr ⟨h, hh, hp, e3⟩⟩
             · left; simp [applyM, h, hr, h1, h2, h3, h4])
theorem calm_all (m : Member) : (calm m).Who = m.Who ∧ (calm m).Slot = m.Slot ∧ (calm m).Epoch = m.Epoch ∧ (calm m).Leaf = m.Leaf ∧ (calm m).Path = m.Path ∧ (calm m).Has = m.Has ∧ (calm m).Out = m.Out := by
  rw [calm_eq]; split <;> simp [withB]
/-- What a message did that is due. -/
theorem next_cases {m : Member} {r : Rekey} (h : (nextM m r).2 = 0) : (r.Epoch = m.Epoch ∧ nextM m r = enterM m r ∧ (nextM m r).1.Has = true ∧ (nextM m r).1.Epoch = m.Epoch) ∨
    (r.Epoch ≠ m.Epoch ∧ nextM m r = (outM m.Who r.Epoch, 0)) ∨
    (r.Epoch ≠ m.Epoch ∧ nextM m r = followM m r ∧ (ahead m.Leaf 1).2 = 0 ∧ (nextM m r).1.Epoch = r.Epoch ∧ (nextM m r).1.Leaf = (ahead m.Leaf 1).1 ∧ (nextM m r).1.Who = m.Who ∧ (nextM m r).1.Slot = m.Slot ∧ (nextM m r).1.Has = m.Has ∧ (nextM m r).1.Out = m.Out) := by
  by_cases he : r.Epoch = m.Epoch
  · left
    cases hj : r.Joins.any (fun s => decide ((⟨m.Who, m.Slot⟩ : Co.Seat) = s)) with
    | false =>
      have : nextM m r = (m, 22) := by unfold nextM; rw [decide_eq_true he, hj]; rfl
      rw [this] at h; simp at h
    | true =>
      have hn : nextM m r = enterM m r := by unfold nextM; rw [decide_eq_true he, hj]; rfl
      rw [hn] at h ⊢
      have h2 : (upP (enterStep m r) m.Slot 3 0 m.Path (leaf m.Slot) m.Leaf).2 = 0 := h
      refine ⟨he, rfl, ?_, rfl⟩
      show (bif decide ((upP (enterStep m r) m.Slot 3 0 m.Path (leaf m.Slot) m.Leaf).2 = 0) then true else m.Has) = true
      rw [decide_eq_true h2]; rfl
  · right
    cases hl : r.Leaves.any (fun s => decide (s.Who = m.Who)) with
    | true =>
      left
      refine ⟨he, ?_⟩
      unfold nextM; rw [decide_eq_false he, hl]; rfl
    | false =>
      right
      have hn : nextM m r = followM m r := by unfold nextM; rw [decide_eq_false he, hl]; rfl
      rw [hn] at h ⊢
      by_cases ha : (ahead m.Leaf 1).2 = 0
      · have hf : followM m r = ({ m with Leaf := (ahead m.Leaf 1).1, Epoch := r.Epoch, Path := (upP (followStep m r) m.Slot 3 0 m.Path (leaf m.Slot) (ahead m.Leaf 1).1).1 }, (upP (followStep m r) m.Slot 3 0 m.Path (leaf m.Slot) (ahead m.Leaf 1).1).2) := by
          unfold followM; rw [decide_eq_true ha]; rfl
        rw [hf]
        exact ⟨he, rfl, ha, rfl, rfl, rfl, rfl, rfl, rfl⟩
      · have hf : followM m r = (m, (ahead m.Leaf 1).2) := by
          unfold followM; rw [decide_eq_false ha]; rfl
        rw [hf] at h; exact absurd h ha
theorem ahead_0 {k : Key} {n : Int} (h : (ahead k n).2 = 0) : (ahead k n).1 = ⟨k.Base, k.Step + n⟩ ∧ good k = true ∧ 0 ≤ n ∧ k.Step + n ≤ 255 := by
  unfold ahead at h ⊢
  split at h
  · rename_i hg
    split at h
    · rename_i h2; exact ⟨by rw [if_pos hg, if_pos h2], hg, h2.1, h2.2⟩
    · simp at h
  · simp at h
theorem eq_law15_MemberKeeps : Eqs c_law15_MemberKeeps g_law15_MemberKeeps := Eqs.tot fun (m, r, _) _ => by
  change Member at m
  change Rekey at r
  simp only [g_law15_MemberKeeps]
  rcases apply_cases m r with ⟨h1, h2⟩ | ⟨h1, h2⟩ | ⟨h1, h2, _, ho, hg, hk⟩
  · rw [h1]
    simp only [h2, decide_false, cond_false, decide_true]
    cases decide ((applyM m r).2 = 22) <;> simp
  · rw [h1]
    simp only [withB, show ¬ (22 : Int) = 0 by omega, decide_false, decide_true, cond_false, cond_true, Bool.not_true]
    by_cases hb : max m.Behind r.Epoch = m.Behind
    · simp [hb]
    · have e1 : max m.Behind r.Epoch = r.Epoch := by omega
      have e2 : m.Behind < r.Epoch := by omega
      simp [e1, e2, h2]
  · rw [h1]
    have hne : ¬ calm (nextM m r).1 = m := fun e => by
      obtain ⟨_, _, c3, _, _, c6, _⟩ := calm_all (nextM m r).1
      rw [e] at c3 c6
      rcases next_cases h2 with ⟨a, _, b, _⟩ | ⟨a, b⟩ | ⟨a, _, _, b, _⟩
      · rcases hk with ⟨_, k2, _⟩ | ⟨_, _, _, k4⟩
        · rw [b, k2] at c6; cases c6
        · omega
      · rw [b] at c3
        have : m.Epoch = r.Epoch := c3
        exact a this.symm
      · rw [b] at c3; exact a c3.symm
    simp only [decide_true, cond_true, hne, decide_false, Bool.not_false]
theorem eq_law15_MemberOneWay : Eqs c_law15_MemberOneWay g_law15_MemberOneWay := Eqs.tot fun (m, r, _) _ => by
  change Member at m
  change Rekey at r
  simp only [g_law15_MemberOneWay]
  rcases apply_cases m r with ⟨h1, h2⟩ | ⟨h1, h2⟩ | ⟨h1, h2, _, ho, hg, hk⟩
  · simp [h2]
  · rw [h1]; simp
  · rw [h1]
    obtain ⟨c1, c2, c3, c4, c5, c6, c7⟩ := calm_all (nextM m r).1
    simp only [c1, c2, c3, c4, c6, c7]
    rcases next_cases h2 with ⟨a, _, b, hb⟩ | ⟨a, b⟩ | ⟨a, _, hah, b1, b2, b3, b4, b5, b6⟩
    · simp [hb]
    · rw [b]
      have : (outM m.Who r.Epoch).Out = true := rfl
      simp [this]
    · obtain ⟨g1, g2, g3, g4⟩ := ahead_0 hah
      have hgk := good_iff.1 g2
      have hge := goodCard_epoch hg
      rw [b1, b2, b3, b4, b5, b6, g1, ho]
      rcases hk with ⟨_, _, _, k4⟩ | ⟨_, k2, _, k4⟩
      · exact absurd k4 a
      · have e1 : IntKind.wrap IntKind.i64 (m.Epoch + 1) = m.Epoch + 1 := i64_in _ (by omega)
        have e2 : IntKind.wrap IntKind.i64 (m.Leaf.Step + 1) = m.Leaf.Step + 1 := i64_in _ (by omega)
        have e3 : gives ⟨m.Leaf.Base, m.Leaf.Step + 1⟩ m.Leaf = false := by
          refine Bool.eq_false_iff.2 fun hh => ?_
          have := (gives_iff.1 hh).2.2.2
          simp only at this; omega
        simp [e1, e2, e3, k2, k4]
/-! ### In step -/
theorem stand_on {t : Tree} (hg : goodTree t = true) {s : Nat} (hs : s < 64) (hon : isOn t.Roster s = true) : stand t (ent t.Roster s).Who = (standAt t (ent t.Roster s).Who s, 0) := by
  have hf := findR_self (goodTree_iff.1 hg).2.2.2.2.2.1 hs hon
  rw [stand_ok hg (by rw [hf]; omega), hf]
theorem kind_out {w e : Int} (h1 : 0 ≤ w ∧ w ≤ 255) (h2 : 1 ≤ e ∧ e ≤ 200) : kind (outM w e) = 1 := by
  have h0 : ¬ outM w e = zeroM := fun h => by
    have := congrArg Member.Out h
    cases this
  unfold kind
  rw [decide_eq_false h0]
  show (bif decide (outM w e = outM w e) && betw w 0 255 && betw e 1 200 then (1 : Int) else -1) = 1
  rw [betw_iff.2 h1, betw_iff.2 h2]; simp
theorem apply_out {w e : Int} (h1 : 0 ≤ w ∧ w ≤ 255) (h2 : 1 ≤ e ∧ e ≤ 200) (r : Rekey) : applyM (outM w e) r = (outM w e, 20) := by
  unfold applyM
  rw [kind_out h1 h2]; rfl
theorem apply_old {n : Tree} (hg : goodTree n = true) {s : Nat} (hs : s < 64) (hon : isOn n.Roster s = true) {x : Int} (hx : x = 0 ∨ n.Epoch + 1 ≤ x ∧ x ≤ 200) {r : Rekey} (hr : goodRekey r = true) (he : r.Epoch ≤ n.Epoch) :
    applyM (withB (standAt n (ent n.Roster s).Who s) x) r = (withB (standAt n (ent n.Roster s).Who s) x, 21) := by
  have hme : (withB (standAt n (ent n.Roster s).Who s) x).Epoch = n.Epoch := rfl
  unfold applyM
  rw [kind_withB hg hs hon hx, hr, hme]
  by_cases h : r.Epoch < n.Epoch
  · rw [decide_eq_true h]; rfl
  · have : r.Epoch = n.Epoch := by omega
    rw [decide_eq_false h, decide_eq_true this]; rfl
/-- A seat that is taken behind a step: who sits there stayed, or joined. -/
theorem nx_sits {t : Tree} {b : Batch} (h : (nextT t b).e = 0) {k : Nat} (hk : k < 64) (hon : isOn (nextT t b).t.Roster k = true) :
    (isOn t.Roster k = true ∧ ent (nextT t b).t.Roster k = ent t.Roster k ∧ (ent t.Roster k).Who ∉ b.Leaves) ∨
    ((⟨(ent (nextT t b).t.Roster k).Who, k⟩ : Co.Seat) ∈ (nextT t b).joined ∧ (ent (nextT t b).t.Roster k).Who ∈ b.Joins) := by
  rcases nx_seat h k hk with ⟨x, hx, hxk⟩ | ⟨_, ⟨_, _, hz⟩ | ⟨hno, he⟩⟩
  · right
    obtain ⟨i, s, a1, a2, hs, a3, a4, _⟩ := nx_joined_at h hx
    have e : s = k := by omega
    subst e
    rw [a4]
    refine ⟨?_, List.mem_of_getElem? a1⟩
    simp only
    rw [show (⟨x.Who, (s : Int)⟩ : Co.Seat) = x by rw [← a3]]
    exact hx
  · unfold isOn at hon; rw [hz] at hon; simp at hon
  · left
    have hont : isOn t.Roster k = true := by unfold isOn at hon ⊢; rwa [he] at hon
    exact ⟨hont, he, fun hl => hno ⟨hont, hl⟩⟩
theorem instep_1 {t : Tree} {b : Batch} (h : (nextT t b).e = 0) : lfp g_law15_MemberInStep_r1 (((), (), (), (msgOf t b).Leaves, ((msgOf t b).Leaves.length : Int), 0, ()), (t, (nextT t b).t, msgOf t b, ()), ()) = some (.inr (((), (), (), ()), (t, (nextT t b).t, msgOf t b, ()), ())) := by
  obtain ⟨hg, _, _, _, _, _⟩ := nextT_ok h
  have hep := nx_epoch h
  have hlen := nextT_joined h
  have hl : (msgOf t b).Leaves.length ≤ 64 := by show (nextT t b).left.length ≤ 64; omega
  rw [lfp_run' (fun i => (((), (), (), (msgOf t b).Leaves, ((msgOf t b).Leaves.length : Int), (i : Int), ()), (t, (nextT t b).t, msgOf t b, ()), ())) (msgOf t b).Leaves.length (by rfl) fun i hi => by
    have h1 : (i : Int) < ((msgOf t b).Leaves.length : Int) := by omega
    have hx : lat (msgOf t b).Leaves (i : Int) ∈ (nextT t b).left := by rw [lat_nat _ i hi]; exact List.getElem_mem hi
    obtain ⟨hw, s, hs, hsl, hon, hwho⟩ := left_at h hx
    have hgE := goodE_iff.1 (roster_on (goodTree_iff.1 hg).2.2.2.2.2.1 hs hon).1
    have hst := stand_on hg hs hon
    have hap := apply_left h hs hon (by rw [hwho]; exact hw) (x := 0) (.inl rfl)
    have hap2 : applyM (stand t (lat (msgOf t b).Leaves (i : Int)).Who).1 (msgOf t b) = (outM (lat (msgOf t b).Leaves (i : Int)).Who (nextT t b).t.Epoch, 0) := by
      rw [← hwho, hst]; exact hap
    have hap3 : applyM (outM (lat (msgOf t b).Leaves (i : Int)).Who (nextT t b).t.Epoch) (msgOf t b) = (outM (lat (msgOf t b).Leaves (i : Int)).Who (nextT t b).t.Epoch, 20) := apply_out (by rw [← hwho]; omega) (by omega) _
    simp only [g_law15_MemberInStep_r1, h1, decide_true, cond_true, Int.natCast_nonneg, Bool.and_self, hap2, hap3, Bool.not_true, cond_false, wrap1' hi (by omega)]
    rw [show (Member.mk (lat (msgOf t b).Leaves (i : Int)).Who 0 (nextT t b).t.Epoch (St.zero St.key) (Vector.replicate 3 (St.zero St.key)) false true 0) = outM (lat (msgOf t b).Leaves (i : Int)).Who (nextT t b).t.Epoch from rfl]
    simp]
  exact lfp_inr (by simp [g_law15_MemberInStep_r1])
theorem seated_card {n : Tree} (hg : goodTree n = true) {s : Nat} (hs : s < 64) (hon : isOn n.Roster s = true) : seated (card n (ent n.Roster s).Who).1 = (bareOf (standAt n (ent n.Roster s).Who s), 0) := by
  unfold card
  rw [stand_on hg hs hon]
  unfold seated
  rw [stand_card hg hs hon]; rfl
theorem instep_2 {t : Tree} {b : Batch} (h : (nextT t b).e = 0) : lfp g_law15_MemberInStep_r2 (((), (), (), 0, ()), (t, (nextT t b).t, msgOf t b, ()), ()) = some (.inr ((), (), ())) := by
  obtain ⟨hg, _, _, _, _, _⟩ := nextT_ok h
  have hgn := nx_good h
  have hr := goodRekey_msg h
  rw [lfp_run' (fun i => (((), (), (), (i : Int), ()), (t, (nextT t b).t, msgOf t b, ()), ())) 64 (by rfl) fun i hi => by
    have h1 : (i : Int) < 64 := by omega
    by_cases hb : (ent (nextT t b).t.Roster i).Base = 0
    · simp only [g_law15_MemberInStep_r2, h1, decide_true, cond_true, Int.natCast_nonneg, Bool.and_self, wrap1 i (by omega)]
      rw [show (Arr.get (nextT t b).t.Roster (i : Int)).Base = 0 from hb]; rfl
    · have hon : isOn (nextT t b).t.Roster i = true := isOn_iff.2 hb
      have hsn := stand_on hgn hi hon
      have hold := apply_old hgn hi hon (x := 0) (.inl rfl) hr (Int.le_refl _)
      have hold2 : applyM (standAt (nextT t b).t (ent (nextT t b).t.Roster i).Who i) (msgOf t b) = (standAt (nextT t b).t (ent (nextT t b).t.Roster i).Who i, 21) := hold
      have hb' : ¬ (Arr.get (nextT t b).t.Roster (i : Int)).Base = 0 := hb
      simp only [g_law15_MemberInStep_r2, h1, decide_true, cond_true, Int.natCast_nonneg, Bool.and_self, wrap1 i (by omega), hb', decide_false, cond_false]
      rcases nx_sits h hi hon with ⟨hont, he, hno⟩ | ⟨hj, hjb⟩
      · have hst := stand_on hg hi hont
        have hap := apply_stays h hi hont he hno (x := 0) (.inl rfl)
        have hep := nx_epoch h
        rw [if_pos (by omega)] at hap
        have hap2 : applyM (standAt t (ent t.Roster i).Who i) (msgOf t b) = (standAt (nextT t b).t (ent t.Roster i).Who i, 0) := hap
        rw [← he] at hst hap2
        simp only [hst, hsn, hap2, hold2, decide_true, Bool.not_true, cond_false]
      · have hns : ¬ (stand t (ent (nextT t b).t.Roster i).Who).2 = 0 := fun hz => by
          obtain ⟨s, hs, _, hon2, hw2, _⟩ := stand_is hz
          exact ((nx_joins h).2 _ hjb).2.2.2 s hs hon2 hw2
        have hap := apply_joins h hi hj
        have hse := seated_card hgn hi hon
        simp only [hns, decide_false, Bool.not_false, cond_true, hse, hap, hsn, hold2, decide_true, Bool.not_true, cond_false]]
  exact lfp_inr (by simp [g_law15_MemberInStep_r2])
theorem eq_law15_MemberInStep : Eqs c_law15_MemberInStep g_law15_MemberInStep := Eqs.tot fun (t, b, _) _ => by
  change Tree at t
  change Batch at b
  simp only [g_law15_MemberInStep, nextR_e]
  by_cases h : (nextT t b).e = 0
  case neg => simp [h]
  have h1 := instep_1 h
  have h2 := instep_2 h
  simp only [h, decide_true, Bool.not_true, cond_false, nextR_is h, h1, h2, Option.bind_some, Sum.elim_inr]
end Go.Co.N
end

section
namespace Go.Co.N
open Go Go.Co

/-- Trees, each made of the one before, and the messages. -/
structure Runs (trees : List Tree) (row : List Rekey) : Prop where
  len : trees.length = row.length + 1
  step : ∀ i : Nat, i < row.length → ∃ b, (nextT (lat trees (i : Int)) b).e = 0 ∧ lat trees ((i + 1 : Nat) : Int) = (nextT (lat trees (i : Int)) b).t ∧ lat row (i : Int) = msgOf (lat trees (i : Int)) b
theorem Runs.one (t : Tree) : Runs [t] [] := ⟨rfl, fun i hi => by simp at hi⟩
theorem Runs.more {trees : List Tree} {row : List Rekey} (h : Runs trees row) {b : Batch} (hn : (nextT (lat trees (row.length : Int)) b).e = 0) : Runs (trees ++ [(nextT (lat trees (row.length : Int)) b).t]) (row ++ [msgOf (lat trees (row.length : Int)) b]) := by
  have hl := h.len
  refine ⟨by simp [hl], fun i hi => ?_⟩
  simp only [List.length_append, List.length_cons, List.length_nil] at hi
  by_cases e : i = row.length
  · subst e
    refine ⟨b, ?_, ?_, ?_⟩
    · rw [lat_app_lt _ _ (by omega)]; exact hn
    · rw [show ((row.length + 1 : Nat) : Int) = (trees.length : Int) by omega, lat_app_last, lat_app_lt _ _ (by omega)]
    · rw [lat_app_last, lat_app_lt _ _ (by omega)]
  · obtain ⟨b', h1, h2, h3⟩ := h.step i (by omega)
    refine ⟨b', ?_, ?_, ?_⟩
    · rw [lat_app_lt _ _ (by omega)]; exact h1
    · rw [lat_app_lt _ _ (by omega), lat_app_lt _ _ (by omega)]; exact h2
    · rw [lat_app_lt _ _ (by omega), lat_app_lt _ _ (by omega)]; exact h3
theorem Runs.epoch {trees : List Tree} {row : List Rekey} (h : Runs trees row) : ∀ i : Nat, i ≤ row.length → (lat trees (i : Int)).Epoch = (lat trees 0).Epoch + i
  | 0, _ => by simp
  | i + 1, hi => by
    obtain ⟨b, h1, h2, _⟩ := h.step i (by omega)
    rw [h2, (nx_epoch h1).1, Runs.epoch h i (by omega)]; omega
theorem Runs.good {trees : List Tree} {row : List Rekey} (h : Runs trees row) (hr : 0 < row.length) (i : Nat) (hi : i ≤ row.length) : goodTree (lat trees (i : Int)) = true := by
  cases i with
  | zero =>
    obtain ⟨b, h1, _, _⟩ := h.step 0 hr
    exact (nextT_ok h1).1
  | succ i =>
    obtain ⟨b, h1, h2, _⟩ := h.step i (by omega)
    rw [h2]; exact nx_good h1
theorem Runs.le {trees : List Tree} {row : List Rekey} (h : Runs trees row) : row.length ≤ 200 := by
  by_cases hr : row.length = 0
  · omega
  · have h0 := h.epoch row.length (by omega)
    have hg := goodTree_iff.1 (h.good (by omega) row.length (by omega))
    have hg0 := goodTree_iff.1 (h.good (by omega) 0 (by omega))
    have : (lat trees ((0 : Nat) : Int)) = lat trees 0 := rfl
    rw [this] at hg0
    omega
theorem runs_loop1 (t : Tree) (picks : List Int) (script : List Batch) (hs : script.length ≤ 140737488355328) : ∀ (d i : Nat) (trees : List Tree) (row : List Rekey), i + d = script.length → Runs trees row → lat trees 0 = t →
    ∃ trees' row', Runs trees' row' ∧ lat trees' 0 = t ∧ lfp g_law15_MemberRuns_r1 ((picks, (), trees, row, script, (script.length : Int), (i : Int), ()), (t, ()), ()) = some ((picks, (), trees', row', ()), (t, ()), ()) := by
  intro d
  induction d with
  | zero =>
    intro i trees row hi hc h0
    refine ⟨trees, row, hc, h0, lfp_inr ?_⟩
    have : ¬ (i : Int) < (script.length : Int) := by omega
    simp only [g_law15_MemberRuns_r1, this, decide_false, cond_false]
  | succ d ih =>
    intro i trees row hi hc hz
    have h1 : (i : Int) < (script.length : Int) := by omega
    have h0 : (0 : Int) ≤ (i : Int) := by omega
    have hw : IntKind.i64.wrap ((i : Int) + 1) = ((i + 1 : Nat) : Int) := by rw [i64_in _ (by omega)]; omega
    have hl := hc.len
    have hle := hc.le
    have hw2 : IntKind.i64.wrap ((trees.length : Int) - 1) = (row.length : Int) := by rw [i64_in _ (by omega)]; omega
    have p1 : (0 : Int) ≤ (row.length : Int) := by omega
    have p2 : (row.length : Int) < (trees.length : Int) := by omega
    by_cases hn : (nextT (lat trees (row.length : Int)) (lat script (i : Int))).e = 0
    · have hc' := hc.more hn
      have hz' : lat (trees ++ [(nextT (lat trees (row.length : Int)) (lat script (i : Int))).t]) 0 = t := by
        rw [show (0 : Int) = ((0 : Nat) : Int) from rfl, lat_app_lt _ _ (by omega)]; exact hz
      obtain ⟨trees', row', g1, g2, g3⟩ := ih (i + 1) _ _ (by omega) hc' hz'
      refine ⟨trees', row', g1, g2, ?_⟩
      rw [← g3]
      apply lfp_inl
      have hb : (trees.length + 1) * 1888 ≤ 140737488355328 := by omega
      have hb2 : (row.length + 1) * 80 ≤ 140737488355328 := by omega
      have hne : (nextR (lat trees (row.length : Int)) (lat script (i : Int))).2.2 = 0 := by rw [nextR_e]; exact hn
      simp only [g_law15_MemberRuns_r1, h1, h0, hw, hw2, p1, p2, hb, hb2, decide_true, Bool.and_self, cond_true, nextR_is hn]
      rfl
    · obtain ⟨trees', row', g1, g2, g3⟩ := ih (i + 1) trees row (by omega) hc hz
      refine ⟨trees', row', g1, g2, ?_⟩
      rw [← g3]
      apply lfp_inl
      have hne : ¬ (nextR (lat trees (row.length : Int)) (lat script (i : Int))).2.2 = 0 := by rw [nextR_e]; exact hn
      simp only [g_law15_MemberRuns_r1, h1, h0, hw, hw2, p1, p2, hne, decide_true, decide_false, Bool.and_self, cond_true, cond_false]
/-- Who doesn't leave stays where it sits. -/
theorem nx_stays {t : Tree} {b : Batch} (h : (nextT t b).e = 0) {k : Nat} (hk : k < 64) (hon : isOn t.Roster k = true) (hno : (ent t.Roster k).Who ∉ b.Leaves) : ent (nextT t b).t.Roster k = ent t.Roster k := by
  rcases nx_seat h k hk with ⟨x, hx, hxk⟩ | ⟨_, ⟨_, hl, _⟩ | ⟨_, he⟩⟩
  · obtain ⟨i, s, _, _, hs, a3, _, a5⟩ := nx_joined_at h hx
    have e : s = k := by omega
    subst e
    exact absurd (a5 hon) hno
  · exact absurd hl hno
  · exact he
theorem nx_gone {t : Tree} {b : Batch} (h : (nextT t b).e = 0) {k : Nat} (hk : k < 64) (hon : isOn t.Roster k = true) (hl : (ent t.Roster k).Who ∈ b.Leaves) : ent (nextT t b).t.Roster k ≠ ent t.Roster k := by
  have hb := (goodTree_iff.1 (nextT_ok h).1).2.2.2.2.2.2.2 k hk
  have hr := nx_room h
  have hb0 := isOn_iff.1 hon
  rcases nx_seat h k hk with ⟨x, hx, hxk⟩ | ⟨_, ⟨_, _, hz⟩ | ⟨hno, _⟩⟩
  · obtain ⟨i, s, _, _, hs, a3, a4, _⟩ := nx_joined_at h hx
    have e : s = k := by omega
    subst e
    intro he
    have := congrArg Entry.Base he
    rw [a4] at this
    simp only at this
    omega
  · intro he
    rw [hz] at he
    exact hb0 (by rw [← he])
  · exact absurd ⟨hon, hl⟩ hno
theorem apply_gap {n : Tree} (hg : goodTree n = true) {s : Nat} (hs : s < 64) (hon : isOn n.Roster s = true) {x : Int} (hx : x = 0 ∨ n.Epoch + 1 ≤ x ∧ x ≤ 200) {r : Rekey} (hr : goodRekey r = true) (he : n.Epoch + 1 < r.Epoch) :
    applyM (withB (standAt n (ent n.Roster s).Who s) x) r = (withB (standAt n (ent n.Roster s).Who s) (max x r.Epoch), 22) := by
  have hme : (withB (standAt n (ent n.Roster s).Who s) x).Epoch = n.Epoch := rfl
  unfold applyM
  rw [kind_withB hg hs hon hx, hr, hme, decide_eq_false (show ¬ r.Epoch < n.Epoch by omega), decide_eq_false (show ¬ r.Epoch = n.Epoch by omega), decide_eq_true he]
  rfl
section
variable {trees : List Tree} {row : List Rekey} (hR : Runs trees row) (hr : 0 < row.length) {t : Tree} {slot : Nat} (hs : slot < 64) (hon : isOn t.Roster slot = true) (picks : List Int) (hp : picks.length * 8 ≤ 140737488355328)
/-- A device that stands at a place of the row. -/
def atRow (trees : List Tree) (t : Tree) (slot at' : Nat) (x : Int) : Member := withB (standAt (lat trees (at' : Int)) (ent t.Roster slot).Who slot) x
include hR hr hs hon hp
theorem runs_loop3 : ∀ (d h at' : Nat) (x : Int), h + d = picks.length → at' ≤ row.length → ent (lat trees (at' : Int)).Roster slot = ent t.Roster slot → (x = 0 ∨ (lat trees (at' : Int)).Epoch + 1 ≤ x ∧ x ≤ 200) →
    ∃ (at2 : Nat) (m : Member), at2 ≤ row.length ∧ (m.Out = true → at2 < row.length ∧ ent (lat trees ((at2 + 1 : Nat) : Int)).Roster slot ≠ ent t.Roster slot) ∧
      lfp g_law15_MemberRuns_r3 ((picks, (), trees, row, (slot : Int), (), (at' : Int), picks, (picks.length : Int), (h : Int), ()), (t, atRow trees t slot at' x, ()), ()) = some (.inl ((picks, (), trees, row, (slot : Int), (), (at2 : Int), ()), (t, m, ()), ())) := by
  intro d
  induction d with
  | zero =>
    intro h at' x hh ha he hx
    refine ⟨at', atRow trees t slot at' x, ha, fun ho => ?_, lfp_inr ?_⟩
    · cases ho
    · have : ¬ (h : Int) < (picks.length : Int) := by omega
      simp only [g_law15_MemberRuns_r3, this, decide_false, cond_false]
  | succ d ih =>
    intro h at' x hh ha he hx
    have hle := hR.le
    have hlen := hR.len
    have h1 : (h : Int) < (picks.length : Int) := by omega
    have h0 : (0 : Int) ≤ (h : Int) := by omega
    have hw : IntKind.i64.wrap ((h : Int) + 1) = ((h + 1 : Nat) : Int) := by rw [i64_in _ (by omega)]; omega
    have hw2 : IntKind.i64.wrap ((at' : Int) + 1) = ((at' + 1 : Nat) : Int) := by rw [i64_in _ (by omega)]; omega
    have hu : IntKind.u64.wrap (row.length : Int) = (row.length : Int) := Go.IntWalk.u64_in _ (by omega)
    have hrn : ¬ (row.length : Int) = 0 := by omega
    obtain ⟨q0, q1⟩ := tmod_wrap (lat picks (h : Int)) (row.length : Int) (by omega) (by omega)
    obtain ⟨i, hi⟩ := Int.eq_ofNat_of_zero_le q0
    rw [hi] at q1
    have hil : i < row.length := by omega
    have hon' : isOn (lat trees (at' : Int)).Roster slot = true := by unfold isOn at hon ⊢; rwa [he]
    have hgat := hR.good hr at' ha
    obtain ⟨b, b1, b2, b3⟩ := hR.step i hil
    have hgr : goodRekey (lat row (i : Int)) = true := by rw [b3]; exact goodRekey_msg b1
    have hre : (lat row (i : Int)).Epoch = (lat trees 0).Epoch + i + 1 := by
      rw [b3]
      show (nextT (lat trees (i : Int)) b).t.Epoch = _
      rw [(nx_epoch b1).1, hR.epoch i (by omega)]
    have hra : (lat trees (at' : Int)).Epoch = (lat trees 0).Epoch + at' := hR.epoch at' ha
    have hst := stand_on hgat hs hon'
    rw [he] at hst
    have hat : atRow trees t slot at' x = withB (standAt (lat trees (at' : Int)) (ent (lat trees (at' : Int)).Roster slot).Who slot) x := by rw [he]; rfl
    have hwho : ∀ y, (withB (standAt (lat trees (at' : Int)) (ent t.Roster slot).Who slot) y).Who = (ent t.Roster slot).Who := fun y => rfl
    have hout : ∀ y, (withB (standAt (lat trees (at' : Int)) (ent t.Roster slot).Who slot) y).Out = false := fun y => rfl
    have hbeh : ∀ y, (withB (standAt (lat trees (at' : Int)) (ent t.Roster slot).Who slot) y).Behind = y := fun y => rfl
    have hepo : ∀ y, (withB (standAt (lat trees (at' : Int)) (ent t.Roster slot).Who slot) y).Epoch = (lat trees (at' : Int)).Epoch := fun y => rfl
    have p1 : (at' : Int) < (trees.length : Int) := by omega
    have p0 : (0 : Int) ≤ (at' : Int) := by omega
    have i0 : (0 : Int) ≤ (i : Int) := by omega
    have hepg := hR.epoch row.length (by omega)
    have hlast := (goodTree_iff.1 (hR.good hr row.length (by omega))).2.1
    rcases Nat.lt_trichotomy i at' with hlt | heq | hgt
    · -- older
      have hap : applyM (atRow trees t slot at' x) (lat row (i : Int)) = (withB (standAt (lat trees (at' : Int)) (ent t.Roster slot).Who slot) x, 21) := by
        rw [hat, apply_old hgat hs hon' hx hgr (by omega), he]
      obtain ⟨at2, m, g1, g2, g3⟩ := ih (h + 1) at' x (by omega) ha he hx
      refine ⟨at2, m, g1, g2, ?_⟩
      rw [← g3]
      apply lfp_inl
      have c1 : (i : Int) < (at' : Int) := by omega
      have c2 : ¬ (at' : Int) < (i : Int) := by omega
      have c3 : ¬ (i : Int) = (at' : Int) := by omega
      have c4 : (if x = 0 then True else ¬ x ≤ (lat trees (at' : Int)).Epoch) := by
        split
        · trivial
        · omega
      simp only [g_law15_MemberRuns_r3, h1, h0, hw, hu, hrn, hi, q1, hap, hout, hwho, hst, hbeh, hepo, c1, c2, c3, p0, p1, i0, decide_true, decide_false, Bool.and_self, cond_true, cond_false, Bool.not_false, Bool.not_true, show ¬ (21 : Int) = 20 by omega, show ¬ (21 : Int) = 0 by omega, show ¬ (21 : Int) = 22 by omega]
      by_cases hx0 : x = 0
      · simp only [hx0, decide_true, Bool.not_true, cond_false]
        simp [atRow, withB]
      · rw [if_neg hx0] at c4
        simp only [hx0, c4, decide_false, Bool.not_false, cond_true, cond_false]
        simp [atRow, withB]
    · -- due
      subst heq
      by_cases hl : (ent (lat trees (i : Int)).Roster slot).Who ∈ b.Leaves
      · have hap := apply_left b1 hs hon' hl hx
        rw [← hat, ← b3] at hap
        refine ⟨i, outM (ent (lat trees (i : Int)).Roster slot).Who (nextT (lat trees (i : Int)) b).t.Epoch, by omega, fun _ => ⟨hil, ?_⟩, ?_⟩
        · rw [b2, ← he]; exact nx_gone b1 hs hon' hl
        · apply lfp_inr
          simp only [g_law15_MemberRuns_r3, h1, h0, hw, hu, hrn, hi, q1, hap, i0, decide_true, decide_false, Bool.and_self, cond_true, cond_false, Bool.not_false, Bool.not_true]
          rfl
      · have hap := apply_stays b1 hs hon' (nx_stays b1 hs hon' hl) hl hx
        rw [← hat, ← b3, ← b2, he] at hap
        have he2 : ent (lat trees ((i + 1 : Nat) : Int)).Roster slot = ent t.Roster slot := by rw [b2, nx_stays b1 hs hon' hl]; exact he
        have hra2 : (lat trees ((i + 1 : Nat) : Int)).Epoch = (lat trees 0).Epoch + (i + 1 : Nat) := hR.epoch (i + 1) (by omega)
        have hon2 : isOn (lat trees ((i + 1 : Nat) : Int)).Roster slot = true := by unfold isOn at hon ⊢; rwa [he2]
        have hst2 := stand_on (hR.good hr (i + 1) (by omega)) hs hon2
        rw [he2] at hst2
        generalize hxx : (if x ≤ (lat trees (i : Int)).Epoch + 1 then 0 else x) = x' at *
        have hx' : x' = 0 ∨ (lat trees ((i + 1 : Nat) : Int)).Epoch + 1 ≤ x' ∧ x' ≤ 200 := by
          rw [hra2]
          split at hxx <;> omega
        obtain ⟨at2, m, g1, g2, g3⟩ := ih (h + 1) (i + 1) x' (by omega) (by omega) he2 hx'
        refine ⟨at2, m, g1, g2, ?_⟩
        rw [← g3]
        apply lfp_inl
        have hwho2 : ∀ y, (withB (standAt (lat trees ((i + 1 : Nat) : Int)) (ent t.Roster slot).Who slot) y).Who = (ent t.Roster slot).Who := fun y => rfl
        have hout2 : ∀ y, (withB (standAt (lat trees ((i + 1 : Nat) : Int)) (ent t.Roster slot).Who slot) y).Out = false := fun y => rfl
        have hbeh2 : ∀ y, (withB (standAt (lat trees ((i + 1 : Nat) : Int)) (ent t.Roster slot).Who slot) y).Behind = y := fun y => rfl
        have hepo2 : ∀ y, (withB (standAt (lat trees ((i + 1 : Nat) : Int)) (ent t.Roster slot).Who slot) y).Epoch = (lat trees ((i + 1 : Nat) : Int)).Epoch := fun y => rfl
        have c2 : ¬ (i : Int) < (i : Int) := by omega
        have p2 : ((i + 1 : Nat) : Int) < (trees.length : Int) := by omega
        have p3 : (0 : Int) ≤ ((i + 1 : Nat) : Int) := by omega
        have c4 : (if x' = 0 then True else ¬ x' ≤ (lat trees ((i + 1 : Nat) : Int)).Epoch) := by
          split
          · trivial
          · omega
        simp only [g_law15_MemberRuns_r3, h1, h0, hw, hw2, hu, hrn, hi, q1, hap, hout2, hwho2, hst2, hbeh2, hepo2, c2, p2, p3, i0, decide_true, decide_false, Bool.and_self, cond_true, cond_false, Bool.not_false, Bool.not_true, show ¬ (0 : Int) = 20 by omega, show ¬ (0 : Int) = 21 by omega, show ¬ (0 : Int) = 22 by omega]
        by_cases hx0 : x' = 0
        · simp only [hx0, decide_true, Bool.not_true, cond_false]
          simp [atRow, withB]
        · rw [if_neg hx0] at c4
          simp only [hx0, c4, decide_false, Bool.not_false, cond_true, cond_false]
          simp [atRow, withB]
    · -- a gap
      have hap : applyM (atRow trees t slot at' x) (lat row (i : Int)) = (withB (standAt (lat trees (at' : Int)) (ent t.Roster slot).Who slot) (max x (lat row (i : Int)).Epoch), 22) := by
        rw [hat, apply_gap hgat hs hon' hx hgr (by omega), he]
      generalize hxx : max x (lat row (i : Int)).Epoch = x' at *
      have hx' : (lat trees (at' : Int)).Epoch + 1 ≤ x' ∧ x' ≤ 200 := by omega
      obtain ⟨at2, m, g1, g2, g3⟩ := ih (h + 1) at' x' (by omega) ha he (.inr hx')
      refine ⟨at2, m, g1, g2, ?_⟩
      rw [← g3]
      apply lfp_inl
      have c1 : ¬ (i : Int) < (at' : Int) := by omega
      have c2 : (at' : Int) < (i : Int) := by omega
      have c3 : ¬ (i : Int) = (at' : Int) := by omega
      have hx0 : ¬ x' = 0 := by have := (goodTree_iff.1 hgat).1; omega
      have c4 : ¬ x' ≤ (lat trees (at' : Int)).Epoch := by omega
      have c5 : ¬ x' < (lat row (i : Int)).Epoch := by omega
      simp only [g_law15_MemberRuns_r3, h1, h0, hw, hu, hrn, hi, q1, hap, hout, hwho, hst, hbeh, hepo, c1, c2, c3, c4, c5, hx0, p0, p1, i0, decide_true, decide_false, Bool.and_self, cond_true, cond_false, Bool.not_false, Bool.not_true, show ¬ (22 : Int) = 20 by omega, show ¬ (22 : Int) = 0 by omega, show ¬ (22 : Int) = 21 by omega]
      simp [atRow, withB]
end
theorem eq_law15_MemberRuns : Eqs c_law15_MemberRuns g_law15_MemberRuns := Eqs.tot fun (t, script, picks, _) hf => by
  change Tree at t
  have hs : List.length (script : List Batch) ≤ 140737488355328 := by
    have := (Fine.list.1 hf.2.1).1
    have h2 : List.length (script : List Batch) * 48 ≤ 140737488355328 := this
    omega
  have hp : List.length (picks : List Int) * 8 ≤ 140737488355328 := (Fine.list.1 hf.2.2.1).1
  simp only [g_law15_MemberRuns]
  obtain ⟨trees, row, hR, ht, hl⟩ := runs_loop1 t (picks : List Int) (script : List Batch) hs (List.length (script : List Batch)) 0 [t] [] (by omega) (Runs.one t) rfl
  rw [show lfp g_law15_MemberRuns_r1 (((picks : List Int), (), [t], [], (script : List Batch), (List.length (script : List Batch) : Int), 0, ()), (t, ()), ()) = _ from hl]
  simp only [Option.bind_some]
  by_cases hr : row.length = 0
  · have : ((row.length : Nat) : Int) = 0 := by omega
    simp only [this, decide_true, cond_true]
  have hr' : ¬ ((row.length : Nat) : Int) = 0 := by omega
  have hgt : goodTree t = true := by have := hR.good (by omega) 0 (by omega); rw [show ((0 : Nat) : Int) = 0 from rfl, ht] at this; exact this
  have hlen := hR.len
  have hle := hR.le
  simp only [hr', decide_false, cond_false]
  rw [lfp_run' (fun i => (((picks : List Int), (), trees, row, (i : Int), ()), (t, ()), ())) 64 (by rfl) fun i hi => by
    have h1 : (i : Int) < 64 := by omega
    by_cases hb : (ent t.Roster i).Base = 0
    · simp only [g_law15_MemberRuns_r2, h1, decide_true, cond_true, Int.natCast_nonneg, Bool.and_self, wrap1 i (by omega)]
      rw [show (Arr.get t.Roster (i : Int)).Base = 0 from hb]; rfl
    · have hon : isOn t.Roster i = true := isOn_iff.2 hb
      have hb' : ¬ (Arr.get t.Roster (i : Int)).Base = 0 := hb
      have hst := stand_on hgt hi hon
      have hst2 : stand t (Arr.get t.Roster (i : Int)).Who = (standAt t (Arr.get t.Roster (i : Int)).Who i, 0) := hst
      obtain ⟨at2, m, g1, g2, g3⟩ := runs_loop3 hR (by omega) hi hon (picks : List Int) hp (List.length (picks : List Int)) 0 0 0 (by omega) (by omega) (by rw [show ((0 : Nat) : Int) = 0 from rfl, ht]) (.inl rfl)
      have g4 : lfp g_law15_MemberRuns_r3 (((picks : List Int), (), trees, row, (i : Int), (), 0, (picks : List Int), (List.length (picks : List Int) : Int), 0, ()), (t, standAt t (Arr.get t.Roster (i : Int)).Who i, ()), ()) = some (.inl (((picks : List Int), (), trees, row, (i : Int), (), (at2 : Int), ()), (t, m, ()), ())) := by
        rw [← g3]
        show lfp _ _ = lfp _ ((_, _, _, _, _, _, _, _, _, _, _), (t, atRow trees t i 0 0, ()), ())
        unfold atRow
        rw [show ((0 : Nat) : Int) = 0 from rfl, ht]
        rfl
      simp only [g_law15_MemberRuns_r2, h1, decide_true, cond_true, Int.natCast_nonneg, Bool.and_self, wrap1 i (by omega), hb', decide_false, cond_false, hst2, Bool.not_true, g4, Option.bind_some, Sum.elim_inl]
      cases hm : m.Out with
      | false => rfl
      | true =>
        obtain ⟨k1, k2⟩ := g2 hm
        have hw2 : IntKind.i64.wrap ((at2 : Int) + 1) = ((at2 + 1 : Nat) : Int) := by rw [i64_in _ (by omega)]; omega
        have p2 : ((at2 + 1 : Nat) : Int) < (trees.length : Int) := by omega
        have p3 : (0 : Int) ≤ ((at2 + 1 : Nat) : Int) := by omega
        have k3 : ¬ Arr.get (lat trees ((at2 + 1 : Nat) : Int)).Roster (i : Int) = Arr.get t.Roster (i : Int) := k2
        simp only [hw2, p2, p3, k3, decide_true, decide_false, Bool.and_self, cond_true, cond_false]
        cases decide (findR (lat trees ((at2 + 1 : Nat) : Int)).Roster m.Who = (i : Int)) <;> rfl]
  rw [lfp_inr (z := .inr ((), (), ())) (by simp [g_law15_MemberRuns_r2])]
  rfl
end Go.Co.N
end

section
namespace Go.Co.N
open Go Go.Co

theorem eq_key_Seal : Eqs c_key_Seal g_key_Seal := Eqs.tot fun (u, l, _) _ => by
  change Key at u l
  simp only [g_key_Seal, sealK]
  cases good u <;> cases good l <;> rfl
theorem eq_ref02_GoodBox : Eqs c_ref02_GoodBox g_ref02_GoodBox := Eqs.tot fun (b, _) _ => by
  change Box at b
  simp only [g_ref02_GoodBox, goodBox]
  cases good b.Under <;> rfl
theorem eq_ref02_Open : Eqs c_ref02_Open g_ref02_Open := Eqs.tot fun (b, k, _) _ => by
  change Box at b
  change Key at k
  simp only [g_ref02_Open, openB]
  cases goodBox b <;> cases good k <;> cases gives k b.Under <;> rfl
theorem eq_ref15_Calm : Eqs c_ref15_Calm g_ref15_Calm := Eqs.tot fun (m, _) _ => by
  change Member at m
  simp only [g_ref15_Calm, calm]
  cases decide (m.Behind ≤ m.Epoch) <;> rfl
theorem lt_le' (a b c : Int) (h : c = b + 1) : decide (a < c) = decide (a ≤ b) := by subst h; exact lt_le a b
theorem eq_ref14_person : Eqs c_ref14_person g_ref14_person := Eqs.tot fun (a, _) _ => by
  change Int at a
  simp only [g_ref14_person, betw, lt_le' a 255 256 rfl]
  cases decide (0 ≤ a) <;> rfl
theorem eq_ref14_slot : Eqs c_ref14_slot g_ref14_slot := Eqs.tot fun (a, _) _ => by
  change Int at a
  simp only [g_ref14_slot, betw, lt_le' a 63 64 rfl]
  cases decide (0 ≤ a) <;> rfl
theorem eq_ref14_GoodReply : Eqs c_ref14_GoodReply g_ref14_GoodReply := Eqs.tot fun (p, _) _ => by
  change Reply at p
  simp only [g_ref14_GoodReply]
  rw [lfp_all' (fun i => (((), (i : Int), ()), (p, ()), ())) 3 (fun i => goodBox (Arr.get p.Path (i : Int))) (.inl ((false, ()), (), ())) (.inr (((), ()), (p, ()), ())) (by rfl)
    (fun i hi hb => by
      have h1 : (i : Int) < 3 := by omega
      simp only [g_ref14_GoodReply_r1, h1, decide_true, cond_true, Int.natCast_nonneg, Bool.and_self, hb, Bool.not_true, cond_false, wrap1 i (by omega)])
    (fun i hi hb => by
      have h1 : (i : Int) < 3 := by omega
      simp only [g_ref14_GoodReply_r1, h1, decide_true, cond_true, Int.natCast_nonneg, Bool.and_self, hb, Bool.not_false])
    (by simp [g_ref14_GoodReply_r1])]
  simp only [Option.bind_some, goodReply]
  cases allN 3 (fun i => goodBox (Arr.get p.Path (i : Int))) with
  | false => simp
  | true =>
    simp only [cond_true, Sum.elim_inr]
    cases betw p.Who 0 255 <;> cases betw p.Slot 0 63 <;> simp
theorem eq_recovery_asks : Eqs c_recovery_asks g_recovery_asks := Eqs.tot fun (m, _) _ => by
  change Member at m
  simp only [g_recovery_asks, asksM]
  cases decide (kind m = 1) <;> cases decide (kind m = 2) <;> cases decide (kind m = 3) <;> rfl
theorem asks_0 {m : Member} : asksM m = 0 ↔ kind m = 2 ∨ kind m = 3 := by
  unfold asksM
  rcases kind_cases m with h | ⟨h, _⟩ | ⟨h, _⟩ | ⟨h, _⟩ | ⟨h, _⟩ <;> rw [h] <;> decide
theorem asks_not {m : Member} (h : ¬ asksM m = 0) : (kind m = 1 ∧ asksM m = 20) ∨ (kind m < 1 ∧ asksM m = 30) := by
  unfold asksM at h ⊢
  rcases kind_cases m with k | ⟨k, _⟩ | ⟨k, _⟩ | ⟨k, _⟩ | ⟨k, _⟩ <;> rw [k] at h ⊢ <;> revert h <;> decide
theorem eq_recovery_Needs : Eqs c_recovery_Needs g_recovery_Needs := Eqs.tot fun (m, _) _ => by
  change Member at m
  simp only [g_recovery_Needs, needsM]
  rcases kind_cases m with h | ⟨h, _⟩ | ⟨h, _⟩ | ⟨h, _, _, _, hh, _⟩ | ⟨h, _, _, _, hh, _⟩
  · simp [asksM, h]
  · simp [asksM, h]
  · simp [asksM, h]
  · simp [asksM, h, hh]
  · simp [asksM, h, hh]
theorem eq_recovery_Ask : Eqs c_recovery_Ask g_recovery_Ask := Eqs.tot fun (m, _) _ => by
  change Member at m
  simp only [g_recovery_Ask, askM]
  cases decide (asksM m = 0) <;> rfl
theorem eq_ref16_Needs : Eqs c_ref16_Needs g_ref16_Needs := Eqs.tot fun (m, _) _ => by
  change Member at m
  simp only [g_ref16_Needs, needsM]
  cases decide (kind m = 2) <;> cases decide (kind m = 3) <;> rfl
theorem eq_ref16_Ask : Eqs c_ref16_Ask g_ref16_Ask := Eqs.tot fun (m, _) _ => by
  change Member at m
  simp only [g_ref16_Ask, askM]
  rcases kind_cases m with h | ⟨h, _⟩ | ⟨h, _⟩ | ⟨h, _⟩ | ⟨h, _⟩ <;> simp [asksM, h]

/-! ### Answers -/
/-- Who stands at a right tree: which one. -/
theorem stand_good {t : Tree} {w : Int} (h : (stand t w).2 = 0) : ∃ s : Nat, s < 64 ∧ goodTree t = true ∧ isOn t.Roster s = true ∧ (ent t.Roster s).Who = w ∧ stand t w = (standAt t (ent t.Roster s).Who s, 0) := by
  obtain ⟨s, hs, hg, hon, hw, he⟩ := stand_is h
  exact ⟨s, hs, hg, hon, hw, by rw [he, hw]⟩
theorem stand_not {t : Tree} {w : Int} (hg : goodTree t = true) (h : ¬ (stand t w).2 = 0) : (stand t w).2 = 16 := by
  unfold stand at h ⊢
  rw [hg] at h ⊢
  by_cases hf : 0 ≤ findR t.Roster w
  · rw [decide_eq_true hf] at h; exact absurd rfl h
  · rw [decide_eq_false hf]; rfl
theorem stand_keys {t : Tree} {s : Nat} (hg : goodTree t = true) (hs : s < 64) (hon : isOn t.Roster s = true) : good (standAt t (ent t.Roster s).Who s).Leaf = true ∧ ∀ i : Nat, i < 3 → good (Arr.get (standAt t (ent t.Roster s).Who s).Path (i : Int)) = true :=
  ⟨(goodCard_epoch (m := standAt t (ent t.Roster s).Who s) (stand_card hg hs hon)).2.2.2.2.2.2, fun i hi => allN_iff.1 (path_good hg hs) i hi⟩
theorem answer_loop {m : Member} (h1 : good m.Leaf = true) (h2 : ∀ i : Nat, i < 3 → good (Arr.get m.Path (i : Int)) = true) (z : Reply) :
    lfp g_recovery_Answer_r1 (((), (), (), m.Path, 0, ()), (z, m, Reply.mk m.Who m.Slot m.Epoch (Vector.replicate 3 (St.zero St.box)), ()), ()) = some (((), (), ()), (z, replyOf m, ()), ()) := by
  rw [lfp_run' (fun i => (((), (), (), m.Path, (i : Int), ()), (z, m, Reply.mk m.Who m.Slot m.Epoch (fillTo (St.zero .box) (fun j => (⟨m.Leaf, Arr.get m.Path (j : Int)⟩ : Box)) i), ()), ())) 3 (by rw [fill_0]; rfl) fun i hi => by
    have g1 : (i : Int) < 3 := by omega
    have hse : sealK m.Leaf (Arr.get m.Path (i : Int)) = (⟨m.Leaf, Arr.get m.Path (i : Int)⟩, 0) := by unfold sealK; rw [h1, h2 i hi]; rfl
    simp only [g_recovery_Answer_r1, g1, decide_true, cond_true, Int.natCast_nonneg, Bool.and_self, wrap1 i (by omega), hse]
    rw [fill_put (n := 3) (St.zero .box) (fun j => (⟨m.Leaf, Arr.get m.Path (j : Int)⟩ : Box)) i hi]]
  rw [fill_n]
  exact lfp_inr (by simp [g_recovery_Answer_r1, replyOf])
theorem answer_loop2 {m : Member} (e : Int) (he : m.Epoch = e) (z : Reply) :
    lfp g_ref16_Answer_r1 (((), (), (), 0, ()), (z, m, Reply.mk m.Who m.Slot e (Vector.replicate 3 (St.zero St.box)), ()), ()) = some (((), (), ()), (z, replyOf m, ()), ()) := by
  subst he
  rw [lfp_run' (fun i => (((), (), (), (i : Int), ()), (z, m, Reply.mk m.Who m.Slot m.Epoch (fillTo (St.zero .box) (fun j => (⟨m.Leaf, Arr.get m.Path (j : Int)⟩ : Box)) i), ()), ())) 3 (by rw [fill_0]; rfl) fun i hi => by
    have g1 : (i : Int) < 3 := by omega
    simp only [g_ref16_Answer_r1, g1, decide_true, cond_true, Int.natCast_nonneg, Bool.and_self, wrap1 i (by omega)]
    rw [fill_put (n := 3) (St.zero .box) (fun j => (⟨m.Leaf, Arr.get m.Path (j : Int)⟩ : Box)) i hi]]
  rw [fill_n]
  exact lfp_inr (by simp [g_ref16_Answer_r1, replyOf])
theorem betw_not (a lo hi : Int) : betw a lo hi = (!decide (a < lo) && !decide (hi < a)) := by
  unfold betw
  congr 1
  · by_cases h : lo ≤ a
    · have : ¬ a < lo := by omega
      simp [h, this]
    · have : a < lo := by omega
      simp [h, this]
  · by_cases h : a ≤ hi
    · have : ¬ hi < a := by omega
      simp [h, this]
    · have : hi < a := by omega
      simp [h, this]
theorem eq_recovery_Answer : Eqs c_recovery_Answer g_recovery_Answer := Eqs.tot fun (t, q, _) _ => by
  change Tree at t
  change Request at q
  simp only [g_recovery_Answer, answerT]
  have hw : betw q.Who 0 255 = (!decide (q.Who < 0) && !decide (256 ≤ q.Who)) := betw_not _ _ _
  rw [hw, betw_not]
  by_cases hg : goodTree t = true
  case neg =>
    have := chkT_bad hg
    rw [this, Bool.eq_false_iff.2 hg]; rfl
  rw [chkT_0.2 hg, hg]
  cases decide (q.Who < 0) with
  | true => rfl
  | false =>
    cases decide (256 ≤ q.Who) with
    | true => rfl
    | false =>
      by_cases hs : (stand t q.Who).2 = 0
      case neg =>
        rw [stand_not hg hs]; rfl
      obtain ⟨s, hs64, _, hon, hwho, hst⟩ := stand_good hs
      obtain ⟨k1, k2⟩ := stand_keys hg hs64 hon
      rw [hst, answer_loop k1 k2]
      cases decide (q.Epoch < 1) <;> cases decide (t.Epoch < q.Epoch) <;> rfl
theorem eq_ref16_Answer : Eqs c_ref16_Answer g_ref16_Answer := Eqs.tot fun (t, q, _) _ => by
  change Tree at t
  change Request at q
  simp only [g_ref16_Answer, answerT]
  have hw : betw q.Who 0 255 = (!decide (q.Who < 0) && !decide (256 ≤ q.Who)) := betw_not _ _ _
  rw [hw, betw_not]
  by_cases hg : goodTree t = true
  case neg =>
    have := chkT_bad hg
    rw [this, Bool.eq_false_iff.2 hg]; rfl
  rw [chkT_0.2 hg, hg]
  cases decide (q.Who < 0) with
  | true => rfl
  | false =>
    cases decide (256 ≤ q.Who) with
    | true => rfl
    | false =>
      by_cases hs : (stand t q.Who).2 = 0
      case neg =>
        rw [stand_not hg hs]; rfl
      obtain ⟨s, hs64, _, hon, hwho, hst⟩ := stand_good hs
      rw [hst, answer_loop2 t.Epoch rfl]
      cases decide (q.Epoch < 1) <;> cases decide (t.Epoch < q.Epoch) <;> rfl

/-! ### Taking -/
theorem goodMsg_reply (p : Reply) : goodMsg (Message.mk 3 (St.zero St.rekey) (St.zero St.request) p (St.zero St.sealed)) = goodReply p := by
  have h1 : noRekey (St.zero St.rekey) = true := by decide
  have h2 : decide ((St.zero St.request : Request) = zeroQ) = true := by decide
  have h4 : decide ((St.zero St.sealed : Sealed) = zeroS) = true := decide_eq_true rfl
  unfold goodMsg
  simp only [h1, h2]
  simp
theorem eq_recovery_fits : Eqs c_recovery_fits g_recovery_fits := Eqs.tot fun (m, p, _) _ => by
  change Member at m
  change Reply at p
  simp only [g_recovery_fits, goodMsg_reply, fitsP]
  cases decide (asksM m = 0) <;> cases goodReply p <;> cases decide (p.Who = m.Who) <;> cases decide (p.Slot = m.Slot) <;> cases decide (p.Epoch < m.Epoch) <;> cases m.Has <;> cases decide (p.Epoch = m.Epoch) <;> rfl
theorem fits_0 {m : Member} {p : Reply} (h : fitsP m p = 0) : asksM m = 0 ∧ goodReply p = true ∧ p.Who = m.Who ∧ p.Slot = m.Slot ∧ m.Epoch ≤ p.Epoch ∧ ¬ (m.Has = true ∧ p.Epoch = m.Epoch) := by
  unfold fitsP at h
  by_cases h1 : asksM m = 0
  case neg => rw [decide_eq_false h1] at h; exact absurd h h1
  rw [decide_eq_true h1] at h
  cases h2 : goodReply p with
  | false => rw [h2] at h; simp at h
  | true =>
    rw [h2] at h
    by_cases h3 : p.Who = m.Who
    case neg => rw [decide_eq_false h3] at h; simp at h
    by_cases h4 : p.Slot = m.Slot
    case neg => rw [decide_eq_false h4] at h; simp at h
    rw [decide_eq_true h3, decide_eq_true h4] at h
    by_cases h5 : p.Epoch < m.Epoch
    · rw [decide_eq_true h5] at h; simp at h
    · refine ⟨h1, rfl, h3, h4, by omega, fun ⟨h6, h7⟩ => ?_⟩
      rw [h6, decide_eq_true h7] at h; simp at h
theorem asks_card {m : Member} (h : asksM m = 0) : m.Out = false ∧ goodCard (cardOf m) = true ∧ calmB m = true := by
  rcases asks_0.1 h with h2 | h2
  · rcases kind_cases m with k | ⟨k, _⟩ | ⟨k, _⟩ | ⟨k, a, b, c, _⟩ | ⟨k, _⟩ <;> first | exact ⟨a, b, c⟩ | omega
  · rcases kind_cases m with k | ⟨k, _⟩ | ⟨k, _⟩ | ⟨k, _⟩ | ⟨k, a, b, c, _⟩ <;> first | exact ⟨a, b, c⟩ | omega
theorem goodReply_iff {p : Reply} : goodReply p = true ↔ (0 ≤ p.Who ∧ p.Who ≤ 255) ∧ (0 ≤ p.Slot ∧ p.Slot ≤ 63) ∧ (1 ≤ p.Epoch ∧ p.Epoch ≤ 200) ∧ ∀ i : Nat, i < 3 → goodBox (Arr.get p.Path (i : Int)) = true := by
  simp [goodReply, betw_iff, allN_iff, and_assoc]
theorem openB_good {b : Box} {k : Key} (hb : goodBox b = true) (hk : good k = true) : openB b k = if gives k b.Under = true then (b.Load, 0) else (⟨0, 0⟩, 5) := by
  unfold openB
  rw [hb, hk]
  cases gives k b.Under <;> rfl
theorem take_loop {p : Reply} {m n z : Member} (hk : good n.Leaf = true) (hp : ∀ i : Nat, i < 3 → goodBox (Arr.get p.Path (i : Int)) = true) (hn : n.Path = Vector.replicate 3 (St.zero .key)) :
    lfp g_recovery_Take_r1 (((), (), (), p.Path, 0, ()), (m, z, n, ()), ()) = some (bif allN 3 (fun i => gives n.Leaf (Arr.get p.Path (i : Int)).Under) then .inr (((), (), (), ()), (m, z, putP n (loads p), ()), ()) else .inl (((), 5, ()), (m, ()), ())) := by
  rw [lfp_all' (fun i => (((), (), (), p.Path, (i : Int), ()), (m, z, putP n (fillTo (St.zero .key) (fun j => (Arr.get p.Path (j : Int)).Load) i), ()), ())) 3 (fun i => gives n.Leaf (Arr.get p.Path (i : Int)).Under) (.inl (((), 5, ()), (m, ()), ())) (.inr (((), (), (), ()), (m, z, putP n (loads p), ()), ())) (by
      rw [fill_0, putP, ← hn]; rfl)
    (fun i hi hb => by
      have h1 : (i : Int) < 3 := by omega
      have ho : openB (Arr.get p.Path (i : Int)) n.Leaf = ((Arr.get p.Path (i : Int)).Load, 0) := by rw [openB_good (hp i hi) hk, if_pos hb]
      simp only [g_recovery_Take_r1, h1, decide_true, cond_true, Int.natCast_nonneg, Bool.and_self, putP, ho, Bool.not_true, cond_false, wrap1 i (by omega)]
      rw [fill_put (n := 3) (St.zero .key) (fun j => (Arr.get p.Path (j : Int)).Load) i hi])
    (fun i hi hb => by
      have h1 : (i : Int) < 3 := by omega
      have ho : openB (Arr.get p.Path (i : Int)) n.Leaf = (⟨0, 0⟩, 5) := by rw [openB_good (hp i hi) hk, if_neg (by rw [hb]; simp)]
      simp only [g_recovery_Take_r1, h1, decide_true, cond_true, Int.natCast_nonneg, Bool.and_self, putP, ho, show ¬ (5 : Int) = 0 by omega, decide_false, Bool.not_false])
    (by rw [fill_n]; simp [g_recovery_Take_r1, loads])]
theorem take_loop2 {p : Reply} {m n z : Member} {k : Key} (hk : good k = true) (hp : ∀ i : Nat, i < 3 → goodBox (Arr.get p.Path (i : Int)) = true) :
    lfp g_ref16_Take_r1 (((), (), (), (), (), 0, ()), (m, p, z, n, k, ()), ()) = some (bif allN 3 (fun i => gives k (Arr.get p.Path (i : Int)).Under) then .inr (((), (), ()), (z, putP n (loads p), ()), ()) else .inl (((), 5, ()), (m, ()), ())) := by
  rw [lfp_all' (fun i => (((), (), (), (), (), (i : Int), ()), (m, p, z, putP n (Arr.make fun j => if j < i then (Arr.get p.Path (j : Int)).Load else Arr.get n.Path (j : Int)), k, ()), ())) 3 (fun i => gives k (Arr.get p.Path (i : Int)).Under) (.inl (((), 5, ()), (m, ()), ())) (.inr (((), (), ()), (z, putP n (loads p), ()), ())) (by
      have : (Arr.make fun j => if j < 0 then (Arr.get p.Path (j : Int)).Load else Arr.get n.Path (j : Int) : Path) = n.Path := arr_ext fun i h0 h1 => by
        rw [get_make _ _ h0 h1, if_neg (by omega), Int.toNat_of_nonneg h0]
      rw [this]; rfl)
    (fun i hi hb => by
      have h1 : (i : Int) < 3 := by omega
      have ho : openB (Arr.get p.Path (i : Int)) k = ((Arr.get p.Path (i : Int)).Load, 0) := by rw [openB_good (hp i hi) hk, if_pos hb]
      have hput : Arr.put (Arr.make fun j => if j < i then (Arr.get p.Path (j : Int)).Load else Arr.get n.Path (j : Int) : Path) (i : Int) (Arr.get p.Path (i : Int)).Load = (Arr.make fun j => if j < i + 1 then (Arr.get p.Path (j : Int)).Load else Arr.get n.Path (j : Int) : Path) := arr_ext fun j h0 h1 => by
        obtain ⟨j, rfl⟩ := Int.eq_ofNat_of_zero_le h0
        rw [get_put _ _ _ _ (by omega) (by omega) (by omega), get_make _ _ h0 h1, get_make _ _ h0 h1, Int.toNat_natCast]
        by_cases e : i = j
        · subst e; rw [if_pos rfl, if_pos (by omega)]
        · rw [if_neg (by omega)]
          by_cases hl : j < i
          · rw [if_pos hl, if_pos (by omega)]
          · rw [if_neg hl, if_neg (by omega)]
      simp only [g_ref16_Take_r1, h1, decide_true, cond_true, Int.natCast_nonneg, Bool.and_self, putP, ho, Bool.not_true, cond_false, wrap1 i (by omega), hput])
    (fun i hi hb => by
      have h1 : (i : Int) < 3 := by omega
      have ho : openB (Arr.get p.Path (i : Int)) k = (⟨0, 0⟩, 5) := by rw [openB_good (hp i hi) hk, if_neg (by rw [hb]; simp)]
      simp only [g_ref16_Take_r1, h1, decide_true, cond_true, Int.natCast_nonneg, Bool.and_self, ho, show ¬ (5 : Int) = 0 by omega, decide_false, Bool.not_false])
    (by
      have : (Arr.make fun j => if j < 3 then (Arr.get p.Path (j : Int)).Load else Arr.get n.Path (j : Int) : Path) = loads p := arr_ext fun i h0 h1 => by
        rw [get_make _ _ h0 h1, loads, get_make _ _ h0 h1, if_pos (by omega)]
      rw [this]; simp [g_ref16_Take_r1])]
theorem follow_same {k : Key} (n : Int) (hg : good k = true) : follow (Arr.put (Arr.put (Arr.put (Vector.replicate 3 (St.zero St.key)) 0 k) 1 k) 2 k) n = if (ahead k n).2 = 0 then (Arr.put (Arr.put (Arr.put (Arr.put (Arr.put (Arr.put (Vector.replicate 3 (St.zero St.key)) 0 k) 1 k) 2 k) 0 (ahead k n).1) 1 (ahead k n).1) 2 (ahead k n).1, 0) else (zeroP, 4) := by
  have e0 : Arr.get (Arr.put (Arr.put (Arr.put (Vector.replicate 3 (St.zero St.key)) 0 k) 1 k) 2 k : Path) 0 = k := rfl
  have e1 : Arr.get (Arr.put (Arr.put (Arr.put (Vector.replicate 3 (St.zero St.key)) 0 k) 1 k) 2 k : Path) 1 = k := rfl
  have e2 : Arr.get (Arr.put (Arr.put (Arr.put (Vector.replicate 3 (St.zero St.key)) 0 k) 1 k) 2 k : Path) 2 = k := rfl
  unfold follow
  rw [e0, e1, e2]
  unfold ahead
  rw [if_pos hg]
  by_cases h : 0 ≤ n ∧ k.Step + n ≤ 255
  · rw [if_pos h]; simp
  · rw [if_neg h]; simp
theorem ahead_err {k : Key} (hg : good k = true) (n : Int) (h : ¬ (ahead k n).2 = 0) : (ahead k n).2 = 4 := by
  unfold ahead at h ⊢
  rw [if_pos hg] at h ⊢
  by_cases h2 : 0 ≤ n ∧ k.Step + n ≤ 255
  · rw [if_pos h2] at h; exact absurd rfl h
  · rw [if_neg h2]
theorem good_ahead {k : Key} {n : Int} (h : (ahead k n).2 = 0) : good (ahead k n).1 = true := by
  obtain ⟨h1, h2, h3, h4⟩ := ahead_0 h
  have := good_iff.1 h2
  rw [h1]
  exact good_iff.2 ⟨by simp only; omega, by simp only; omega, by simp only; omega, by simp only; omega⟩
theorem eq_recovery_Take : Eqs c_recovery_Take g_recovery_Take := Eqs.tot fun (m, p, _) _ => by
  change Member at m
  change Reply at p
  simp only [g_recovery_Take, takeM]
  by_cases hf : fitsP m p = 0
  case neg => simp only [hf, decide_false, Bool.not_false, cond_true, cond_false]
  obtain ⟨h1, h2, h3, h4, h5, h6⟩ := fits_0 hf
  obtain ⟨a1, a2, a3⟩ := asks_card h1
  have hc := goodCard_epoch a2
  obtain ⟨r1, r2, r3, r4⟩ := goodReply_iff.1 h2
  rw [i64_in (p.Epoch - m.Epoch) (by omega), follow_same _ hc.2.2.2.2.2.2]
  simp only [hf, decide_true, Bool.not_true, cond_true, cond_false]
  by_cases ha : (ahead m.Leaf (p.Epoch - m.Epoch)).2 = 0
  case neg => simp [ha]
  simp only [ha, if_true, decide_true, Bool.not_true, cond_true, cond_false]
  have hg := good_ahead ha
  generalize (ahead m.Leaf (p.Epoch - m.Epoch)).1 = k at *
  have e0 : Arr.get (Arr.put (Arr.put (Arr.put (Arr.put (Arr.put (Arr.put (Vector.replicate 3 (St.zero St.key)) 0 m.Leaf) 1 m.Leaf) 2 m.Leaf) 0 k) 1 k) 2 k : Path) 0 = k := rfl
  rw [e0, take_loop (n := Member.mk m.Who m.Slot p.Epoch k (Vector.replicate 3 (St.zero St.key)) true false 0) hg r4 rfl]
  simp only [Option.bind_some]
  cases allN 3 (fun i => gives k (Arr.get p.Path (i : Int)).Under) with
  | false => rfl
  | true =>
    simp only [cond_true, Sum.elim_inr, putP]
    unfold calm
    by_cases hb : p.Epoch < m.Behind
    · have : ¬ m.Behind ≤ p.Epoch := by omega
      simp only [hb, this, decide_true, decide_false, cond_true, cond_false]
    · have : m.Behind ≤ p.Epoch := by omega
      simp only [hb, this, decide_true, decide_false, cond_true, cond_false]
theorem eq_ref16_Take : Eqs c_ref16_Take g_ref16_Take := Eqs.tot fun (m, p, _) _ => by
  change Member at m
  change Reply at p
  simp only [g_ref16_Take, takeM]
  by_cases hk : asksM m = 0
  case neg =>
    have hf : fitsP m p = asksM m := by unfold fitsP; rw [decide_eq_false hk]; rfl
    rw [hf]
    rcases asks_not hk with ⟨k1, k2⟩ | ⟨k1, k2⟩
    · rw [k1, k2]; rfl
    · rw [k2, decide_eq_true k1]; rfl
  obtain ⟨a1, a2, a3⟩ := asks_card hk
  have hc := goodCard_epoch a2
  have k1 : ¬ kind m < 1 := by rcases asks_0.1 hk with h | h <;> omega
  have k2 : ¬ kind m = 1 := by rcases asks_0.1 hk with h | h <;> omega
  simp only [k1, k2, decide_false, cond_false]
  cases hr : goodReply p with
  | false =>
    have hf : fitsP m p = 13 := by unfold fitsP; rw [decide_eq_true hk, hr]; rfl
    rw [hf]; rfl
  | true =>
    by_cases h3 : p.Who = m.Who
    case neg =>
      have hf : fitsP m p = 24 := by unfold fitsP; rw [decide_eq_true hk, hr, decide_eq_false h3]; rfl
      rw [hf, decide_eq_false h3]; rfl
    by_cases h4 : p.Slot = m.Slot
    case neg =>
      have hf : fitsP m p = 24 := by unfold fitsP; rw [decide_eq_true hk, hr, decide_eq_true h3, decide_eq_false h4]; rfl
      rw [hf, decide_eq_true h3, decide_eq_false h4]; rfl
    by_cases h5 : p.Epoch < m.Epoch
    · have hf : fitsP m p = 21 := by unfold fitsP; rw [decide_eq_true hk, hr, decide_eq_true h3, decide_eq_true h4, decide_eq_true h5]; rfl
      rw [hf, decide_eq_true h3, decide_eq_true h4, decide_eq_true h5]; rfl
    obtain ⟨r1, r2, r3, r4⟩ := goodReply_iff.1 hr
    have rest : (bif !decide ((ahead m.Leaf (IntKind.wrap IntKind.i64 (p.Epoch - m.Epoch))).2 = 0) then some (m, (4 : Int), ()) else Option.bind (lfp g_ref16_Take_r1 (((), (), (), (), (), 0, ()), (m, p, St.zero St.member, Member.mk m.Who m.Slot p.Epoch (ahead m.Leaf (IntKind.wrap IntKind.i64 (p.Epoch - m.Epoch))).1 m.Path true m.Out m.Behind, (ahead m.Leaf (IntKind.wrap IntKind.i64 (p.Epoch - m.Epoch))).1, ()), ())) fun z => Sum.elim (fun x => some (x.2.1.1, x.1.2.1, ())) (fun z => some (calm z.2.1.2.1, 0, ())) z) =
        some ((bif decide ((ahead m.Leaf (p.Epoch - m.Epoch)).2 = 0) then bif allN 3 fun i => gives (ahead m.Leaf (p.Epoch - m.Epoch)).1 (Arr.get p.Path (i : Int)).Under then (calm ⟨m.Who, m.Slot, p.Epoch, (ahead m.Leaf (p.Epoch - m.Epoch)).1, loads p, true, false, m.Behind⟩, (0 : Int)) else (m, 5) else (m, 4)).1, (bif decide ((ahead m.Leaf (p.Epoch - m.Epoch)).2 = 0) then bif allN 3 fun i => gives (ahead m.Leaf (p.Epoch - m.Epoch)).1 (Arr.get p.Path (i : Int)).Under then (calm ⟨m.Who, m.Slot, p.Epoch, (ahead m.Leaf (p.Epoch - m.Epoch)).1, loads p, true, false, m.Behind⟩, (0 : Int)) else (m, 5) else (m, 4)).2, ()) := by
      rw [i64_in (p.Epoch - m.Epoch) (by omega)]
      by_cases ha : (ahead m.Leaf (p.Epoch - m.Epoch)).2 = 0
      case neg => simp [ha]
      have hg := good_ahead ha
      simp only [ha, decide_true, Bool.not_true, cond_true, cond_false]
      generalize (ahead m.Leaf (p.Epoch - m.Epoch)).1 = k at *
      rw [take_loop2 hg r4, a1]
      simp only [Option.bind_some]
      cases allN 3 (fun i => gives k (Arr.get p.Path (i : Int)).Under) <;> rfl
    rw [decide_eq_true h3, decide_eq_true h4, decide_eq_false h5]
    by_cases h6 : m.Has = true ∧ p.Epoch = m.Epoch
    · have hf : fitsP m p = 21 := by unfold fitsP; rw [decide_eq_true hk, hr, decide_eq_true h3, decide_eq_true h4, decide_eq_false h5, h6.1, decide_eq_true h6.2]; rfl
      rw [hf, h6.1, decide_eq_true h6.2]; rfl
    · have hf : fitsP m p = 0 := by
        unfold fitsP
        rw [decide_eq_true hk, hr, decide_eq_true h3, decide_eq_true h4, decide_eq_false h5]
        cases hh : m.Has with
        | false => rfl
        | true =>
          have : ¬ p.Epoch = m.Epoch := fun e => h6 ⟨hh, e⟩
          rw [decide_eq_false this]; rfl
      simp only [hf, decide_true, cond_true, cond_false, Bool.not_true]
      by_cases he : p.Epoch = m.Epoch
      · have hh : m.Has = false := Bool.eq_false_iff.2 fun h => h6 ⟨h, he⟩
        rw [decide_eq_true he, hh]
        exact rest
      · rw [decide_eq_false he]
        exact rest
end Go.Co.N
end

section
namespace Go.Co.N
open Go Go.Co

theorem eq_law16_three : Eqs c_law16_three g_law16_three := fun (n, _) y _ h => by
  change Int at n
  have h : guardK (decide (0 ≤ n) && decide (n ≤ 10)) (some (restT n.toNat threeT, ())) = some y := h
  by_cases hc : 0 ≤ n ∧ n ≤ 10
  case neg =>
    have : (decide (0 ≤ n) && decide (n ≤ 10)) = false := Bool.eq_false_iff.2 fun hh => hc (by simpa using hh)
    rw [this] at h; cases h
  have : (decide (0 ≤ n) && decide (n ≤ 10)) = true := by simp [hc]
  rw [this] at h
  have h : some (restT n.toNat threeT, ()) = some y := h
  rw [← h]
  simp only [g_law16_three]
  obtain ⟨k, rfl⟩ := Int.eq_ofNat_of_zero_le hc.1
  rw [lfp_run' (fun i => (((k : Int), (), (), (i : Int), ()), (St.zero St.tree, restT i threeT, ()), ())) k (by rfl) fun i hi => by
    have h1 : (i : Int) < (k : Int) := by omega
    simp only [g_law16_three_r1, h1, decide_true, cond_true, wrap1 i (by omega)]
    rfl]
  rw [lfp_inr (z := (((), (), ()), (St.zero St.tree, restT k threeT, ()), ())) (by simp [g_law16_three_r1])]
  simp
theorem eq_law16_lives : Eqs c_law16_lives g_law16_lives := fun _ _ _ h => h
theorem eq_law16_RecoveryAsks : Eqs c_law16_RecoveryAsks g_law16_RecoveryAsks := Eqs.tot fun (m, _) _ => by simp [g_law16_RecoveryAsks]
theorem eq_law16_RecoveryAnswers : Eqs c_law16_RecoveryAnswers g_law16_RecoveryAnswers := Eqs.tot fun (t, q, _) _ => by simp [g_law16_RecoveryAnswers]
/-- What a reply may do. -/
theorem take_cases (m : Member) (p : Reply) : ((takeM m p).1 = m ∧ (takeM m p).2 ≠ 0) ∨
    (fitsP m p = 0 ∧ (ahead m.Leaf (p.Epoch - m.Epoch)).2 = 0 ∧ takeM m p = (calm ⟨m.Who, m.Slot, p.Epoch, (ahead m.Leaf (p.Epoch - m.Epoch)).1, loads p, true, false, m.Behind⟩, 0)) := by
  unfold takeM
  by_cases hf : fitsP m p = 0
  case neg => left; rw [decide_eq_false hf]; exact ⟨rfl, hf⟩
  rw [decide_eq_true hf]
  by_cases ha : (ahead m.Leaf (p.Epoch - m.Epoch)).2 = 0
  case neg => left; rw [decide_eq_false ha]; exact ⟨rfl, by simp⟩
  rw [decide_eq_true ha]
  cases allN 3 (fun i => gives (ahead m.Leaf (p.Epoch - m.Epoch)).1 (Arr.get p.Path (i : Int)).Under) with
  | false => left; exact ⟨rfl, by simp⟩
  | true => right; exact ⟨hf, ha, rfl⟩
theorem kind_three {m : Member} (ho : m.Out = false) (hg : goodCard (cardOf m) = true) (hc : calmB m = true) (hh : m.Has = true) (hp : goodPath m.Path = true) : kind m = 3 := by
  have h1 : ¬ m = zeroM := fun e => by
    have h0 := goodCard_epoch hg
    have := congrArg Member.Epoch e
    have : m.Epoch = 0 := this
    omega
  unfold kind
  rw [decide_eq_false h1, ho, hg, hc, hh, hp]; rfl
theorem kind_two {m : Member} (ho : m.Out = false) (hg : goodCard (cardOf m) = true) (hc : calmB m = true) (hh : m.Has = false) (hp : m.Path = zeroP) : kind m = 2 := by
  have h1 : ¬ m = zeroM := fun e => by
    have h0 := goodCard_epoch hg
    have := congrArg Member.Epoch e
    have : m.Epoch = 0 := this
    omega
  unfold kind
  rw [decide_eq_false h1, ho, hg, hc, hh, hp]
  show (bif decide (zeroP = zeroP) then (2 : Int) else -1) = 2
  simp
theorem goodCard_of {w s e : Int} {k : Key} (h1 : 0 ≤ w ∧ w ≤ 255) (h2 : 0 ≤ s ∧ s ≤ 63) (h3 : 1 ≤ e ∧ e ≤ 200) (h4 : good k = true) : goodCard ⟨w, s, e, k⟩ = true := by
  unfold goodCard
  rw [betw_iff.2 h1, betw_iff.2 h2, betw_iff.2 h3, h4]; rfl
theorem good_loads {p : Reply} (h : goodReply p = true) : goodPath (loads p) = true := allN_iff.2 fun i hi => by
  have := (goodReply_iff.1 h).2.2.2 i hi
  unfold goodBox at this
  rw [loads, get_make _ _ (by omega) (by omega)]
  simp only [Int.toNat_natCast]
  exact (Bool.and_eq_true .. ▸ this).2
theorem kind_taken {m : Member} {p : Reply} (h1 : fitsP m p = 0) (h2 : (ahead m.Leaf (p.Epoch - m.Epoch)).2 = 0) : kind (calm ⟨m.Who, m.Slot, p.Epoch, (ahead m.Leaf (p.Epoch - m.Epoch)).1, loads p, true, false, m.Behind⟩) = 3 := by
  obtain ⟨f1, f2, f3, f4, f5, f6⟩ := fits_0 h1
  obtain ⟨a1, a2, a3⟩ := asks_card f1
  have hc := goodCard_epoch a2
  obtain ⟨r1, r2, r3, r4⟩ := goodReply_iff.1 f2
  obtain ⟨c1, c2, c3, c4, c5, c6, c7⟩ := calm_all ⟨m.Who, m.Slot, p.Epoch, (ahead m.Leaf (p.Epoch - m.Epoch)).1, loads p, true, false, m.Behind⟩
  refine kind_three (by rw [c7]) ?_ ?_ (by rw [c6]) (by rw [c5]; exact good_loads f2)
  · unfold cardOf
    rw [c1, c2, c3, c4]
    exact goodCard_of ⟨hc.1, hc.2.1⟩ ⟨hc.2.2.1, hc.2.2.2.1⟩ r3 (good_ahead h2)
  · rw [calm_eq]
    by_cases hb : m.Behind ≤ p.Epoch
    · rw [if_pos hb]; rfl
    · rw [if_neg hb]
      unfold calmB at a3 ⊢
      simp only [Bool.or_eq_true, decide_eq_true_eq, betw_iff] at a3 ⊢
      omega
theorem eq_law16_RecoveryTakes : Eqs c_law16_RecoveryTakes g_law16_RecoveryTakes := Eqs.tot fun (m, p, _) _ => by
  change Member at m
  change Reply at p
  simp only [g_law16_RecoveryTakes, decide_true, Bool.not_true, cond_false]
  rcases take_cases m p with ⟨h1, h2⟩ | ⟨h1, h2, h3⟩
  · rw [h1]
    by_cases hk : 0 ≤ kind m
    · have : ¬ kind m < 0 := by omega
      simp [hk, this, h2]
    · simp [hk, h2]
  · rw [h3, kind_taken h1 h2]
    cases decide (0 ≤ kind m) <;> rfl
theorem ahead_zero {k : Key} (h : good k = true) : ahead k 0 = (k, 0) := by
  have := good_iff.1 h
  unfold ahead
  rw [if_pos h, if_pos ⟨by omega, by omega⟩]
  simp
/-- The reply to who stands at a right tree is right. -/
theorem goodReply_stand {t : Tree} {s : Nat} (hg : goodTree t = true) (hs : s < 64) (hon : isOn t.Roster s = true) : goodReply (replyOf (standAt t (ent t.Roster s).Who s)) = true := by
  have hc := goodCard_epoch (m := standAt t (ent t.Roster s).Who s) (stand_card hg hs hon)
  obtain ⟨k1, k2⟩ := stand_keys hg hs hon
  refine goodReply_iff.2 ⟨⟨hc.1, hc.2.1⟩, ⟨hc.2.2.1, hc.2.2.2.1⟩, ⟨hc.2.2.2.2.1, hc.2.2.2.2.2.1⟩, fun i hi => ?_⟩
  show goodBox (Arr.get (Arr.make fun i => (⟨(standAt t (ent t.Roster s).Who s).Leaf, Arr.get (standAt t (ent t.Roster s).Who s).Path (i : Int)⟩ : Box)) (i : Int)) = true
  rw [get_make _ _ (by omega) (by omega), Int.toNat_natCast]
  unfold goodBox
  rw [k1, k2 i hi]; rfl
theorem answer_stand {t : Tree} {s : Nat} (hg : goodTree t = true) (hs : s < 64) (hon : isOn t.Roster s = true) {e : Int} (h1 : 1 ≤ e) (h2 : e ≤ t.Epoch) : answerT t ⟨(ent t.Roster s).Who, e⟩ = (replyOf (standAt t (ent t.Roster s).Who s), 0) := by
  have hc := goodCard_epoch (m := standAt t (ent t.Roster s).Who s) (stand_card hg hs hon)
  have hw : betw (ent t.Roster s).Who 0 255 = true := betw_iff.2 ⟨hc.1, hc.2.1⟩
  have he : betw e 1 t.Epoch = true := betw_iff.2 ⟨h1, h2⟩
  unfold answerT
  simp only [hg, hw, he, stand_on hg hs hon, decide_true, cond_true]
theorem eq_law16_RecoveryStrange : Eqs c_law16_RecoveryStrange g_law16_RecoveryStrange := Eqs.tot fun (t, who, leaf, _) _ => by
  change Tree at t
  change Int at who
  change Key at leaf
  simp only [g_law16_RecoveryStrange]
  by_cases hst : (stand t who).2 = 0
  case neg => simp [hst]
  obtain ⟨s, hs, hg, hon, hw, he⟩ := stand_good hst
  have hep := stand_epoch hg hs hon
  have hans := answer_stand hg hs hon hep.1 (Int.le_refl _)
  have hc := goodCard_epoch (m := standAt t (ent t.Roster s).Who s) (stand_card hg hs hon)
  have hr := goodReply_stand hg hs hon
  rw [hw] at hans he hc hr
  simp only [he, hans, decide_true, Bool.not_true, cond_false]
  have hm : Member.mk (standAt t who s).Who (standAt t who s).Slot (standAt t who s).Epoch leaf (Vector.replicate 3 (St.zero St.key)) false (standAt t who s).Out (standAt t who s).Behind = Member.mk who s t.Epoch leaf zeroP false false 0 := rfl
  rw [hm]
  have hcard : cardOf (Member.mk who s t.Epoch leaf zeroP false false 0) = ⟨who, s, t.Epoch, leaf⟩ := rfl
  cases hl : good leaf with
  | false =>
    have hk : kind (Member.mk who s t.Epoch leaf zeroP false false 0) = -1 := by
      rcases kind_cases (Member.mk who s t.Epoch leaf zeroP false false 0) with k | ⟨k, e⟩ | ⟨k, e, _⟩ | ⟨k, _, g, _⟩ | ⟨k, _, g, _⟩
      · exact k
      · have := congrArg Member.Epoch e
        have : t.Epoch = 0 := this
        omega
      · have := congrArg Member.Out e
        cases this
      · have := (goodCard_epoch g).2.2.2.2.2.2
        rw [show (Member.mk who s t.Epoch leaf zeroP false false 0).Leaf = leaf from rfl, hl] at this; cases this
      · have := (goodCard_epoch g).2.2.2.2.2.2
        rw [show (Member.mk who s t.Epoch leaf zeroP false false 0).Leaf = leaf from rfl, hl] at this; cases this
    have hf : fitsP (Member.mk who s t.Epoch leaf zeroP false false 0) (replyOf (standAt t who s)) = 30 := by
      unfold fitsP asksM
      rw [hk]; rfl
    have ht : takeM (Member.mk who s t.Epoch leaf zeroP false false 0) (replyOf (standAt t who s)) = (Member.mk who s t.Epoch leaf zeroP false false 0, 30) := by
      unfold takeM
      rw [hf]; rfl
    simp only [ht]
    simp
  | true =>
    have hgc : goodCard (cardOf (Member.mk who s t.Epoch leaf zeroP false false 0)) = true := goodCard_of ⟨hc.1, hc.2.1⟩ ⟨hc.2.2.1, hc.2.2.2.1⟩ ⟨hc.2.2.2.2.1, hc.2.2.2.2.2.1⟩ hl
    have hk : kind (Member.mk who s t.Epoch leaf zeroP false false 0) = 2 := kind_two rfl hgc rfl rfl rfl
    have hf : fitsP (Member.mk who s t.Epoch leaf zeroP false false 0) (replyOf (standAt t who s)) = 0 := by
      unfold fitsP
      rw [decide_eq_true (asks_0.2 (.inl hk)), hr]
      have e1 : (replyOf (standAt t who s)).Who = who := rfl
      have e2 : (replyOf (standAt t who s)).Slot = (s : Int) := rfl
      have e3 : (replyOf (standAt t who s)).Epoch = t.Epoch := rfl
      simp [e1, e2, e3]
    have ha : ahead leaf ((replyOf (standAt t who s)).Epoch - t.Epoch) = (leaf, 0) := by
      rw [show (replyOf (standAt t who s)).Epoch = t.Epoch from rfl, show t.Epoch - t.Epoch = 0 by omega]
      exact ahead_zero hl
    have hloop : lfp g_law16_RecoveryStrange_r1 (((), (), (takeM (Member.mk who s t.Epoch leaf zeroP false false 0) (replyOf (standAt t who s))).2, (), (), true, 0, ()), (leaf, Member.mk who s t.Epoch leaf zeroP false false 0, replyOf (standAt t who s), (takeM (Member.mk who s t.Epoch leaf zeroP false false 0) (replyOf (standAt t who s))).1, ()), ()) =
        some (((), (takeM (Member.mk who s t.Epoch leaf zeroP false false 0) (replyOf (standAt t who s))).2, (), allN 3 (fun i => gives leaf (Arr.get (replyOf (standAt t who s)).Path (i : Int)).Under), ()), (Member.mk who s t.Epoch leaf zeroP false false 0, (takeM (Member.mk who s t.Epoch leaf zeroP false false 0) (replyOf (standAt t who s))).1, ()), ()) := by
      rw [lfp_run' (fun i => (((), (), (takeM (Member.mk who s t.Epoch leaf zeroP false false 0) (replyOf (standAt t who s))).2, (), (), allN i (fun i => gives leaf (Arr.get (replyOf (standAt t who s)).Path (i : Int)).Under), (i : Int), ()), (leaf, Member.mk who s t.Epoch leaf zeroP false false 0, replyOf (standAt t who s), (takeM (Member.mk who s t.Epoch leaf zeroP false false 0) (replyOf (standAt t who s))).1, ()), ())) 3 (by rfl) fun i hi => by
        have h1 : (i : Int) < 3 := by omega
        simp only [g_law16_RecoveryStrange_r1, h1, decide_true, cond_true, Int.natCast_nonneg, Bool.and_self, wrap1 i (by omega), allN]
        cases allN i (fun i => gives leaf (Arr.get (replyOf (standAt t who s)).Path (i : Int)).Under) <;> simp]
      exact lfp_inr (by simp [g_law16_RecoveryStrange_r1])
    rw [show (takeM (Member.mk who s t.Epoch leaf zeroP false false 0) (replyOf (standAt t who s))) = takeM (Member.mk who s t.Epoch leaf zeroP false false 0) (replyOf (standAt t who s)) from rfl]
    simp only [Bool.not_true, cond_false, hloop, Option.bind_some]
    have htk : takeM (Member.mk who s t.Epoch leaf zeroP false false 0) (replyOf (standAt t who s)) = bif allN 3 (fun i => gives leaf (Arr.get (replyOf (standAt t who s)).Path (i : Int)).Under) then (calm ⟨who, s, (replyOf (standAt t who s)).Epoch, leaf, loads (replyOf (standAt t who s)), true, false, 0⟩, 0) else (Member.mk who s t.Epoch leaf zeroP false false 0, 5) := by
      unfold takeM
      simp only [hf, ha, decide_true, cond_true]
    rw [htk]
    cases allN 3 (fun i => gives leaf (Arr.get (replyOf (standAt t who s)).Path (i : Int)).Under) with
    | true => simp
    | false => simp

/-! ### Brought on -/
section
variable {t last : Tree} (hgt : goodTree t = true) (hgl : goodTree last = true) (hle : t.Epoch ≤ last.Epoch) {s : Nat} (hs : s < 64) (hon : isOn t.Roster s = true)
/-- A device that stood at a tree, with or without its path. -/
def lagM (t : Tree) (s : Nat) (h : Bool) (x : Int) : Member := ⟨(ent t.Roster s).Who, s, t.Epoch, (leafAt (ent t.Roster s) t.Epoch).1, bif h then pathK t s else zeroP, h, false, x⟩
include hgt hs hon
theorem kind_lag (h : Bool) {x : Int} (hx : x = 0 ∨ t.Epoch + 1 ≤ x ∧ x ≤ 200) : asksM (lagM t s h x) = 0 ∧ goodCard (cardOf (lagM t s h x)) = true := by
  have hc : goodCard (cardOf (lagM t s h x)) = true := stand_card hgt hs hon
  have hb : calmB (lagM t s h x) = true := by
    show (decide (x = 0) || betw x (t.Epoch + 1) 200) = true
    rcases hx with e | e
    · simp [e]
    · simp [betw_iff.2 e]
  refine ⟨asks_0.2 ?_, hc⟩
  cases h with
  | true => exact .inr (kind_three rfl hc hb rfl (path_good hgt hs))
  | false => exact .inl (kind_two rfl hc hb rfl rfl)
theorem ask_lag (h : Bool) {x : Int} (hx : x = 0 ∨ t.Epoch + 1 ≤ x ∧ x ≤ 200) : askM (lagM t s h x) = (⟨(ent t.Roster s).Who, t.Epoch⟩, 0) := by
  unfold askM
  rw [decide_eq_true (kind_lag hgt hs hon h hx).1]; rfl
include hgl hle
theorem take_lag (hst : ent last.Roster s = ent t.Roster s) (h : Bool) {x : Int} (hx : x = 0 ∨ t.Epoch + 1 ≤ x ∧ x ≤ 200) (hno : ¬ (h = true ∧ last.Epoch = t.Epoch)) :
    takeM (lagM t s h x) (replyOf (standAt last (ent t.Roster s).Who s)) = (withB (standAt last (ent t.Roster s).Who s) (if x ≤ last.Epoch then 0 else x), 0) := by
  have honl : isOn last.Roster s = true := by unfold isOn at hon ⊢; rwa [hst]
  have hr := goodReply_stand hgl hs honl
  rw [hst] at hr
  have hl := leafAt_on hgt hs hon
  have hll := leafAt_on hgl hs honl
  rw [hst] at hll
  have hE := goodE_iff.1 (roster_on (goodTree_iff.1 hgt).2.2.2.2.2.1 hs hon).1
  have hsn := ((goodTree_iff.1 hgt).2.2.2.2.2.2.2 s hs).2.1
  have hlast := (goodTree_iff.1 hgl).2.1
  obtain ⟨hk, hgc⟩ := kind_lag hgt hs hon h hx
  have hf : fitsP (lagM t s h x) (replyOf (standAt last (ent t.Roster s).Who s)) = 0 := by
    unfold fitsP
    rw [decide_eq_true hk, hr]
    have e1 : (replyOf (standAt last (ent t.Roster s).Who s)).Who = (lagM t s h x).Who := rfl
    have e2 : (replyOf (standAt last (ent t.Roster s).Who s)).Slot = (lagM t s h x).Slot := rfl
    have e3 : (replyOf (standAt last (ent t.Roster s).Who s)).Epoch = last.Epoch := rfl
    have e4 : (lagM t s h x).Epoch = t.Epoch := rfl
    have e5 : (lagM t s h x).Has = h := rfl
    rw [e1, e2, e3, e4, e5, decide_eq_true rfl, decide_eq_true rfl, decide_eq_false (show ¬ last.Epoch < t.Epoch by omega)]
    cases h with
    | false => rfl
    | true =>
      have : ¬ last.Epoch = t.Epoch := fun e => hno ⟨rfl, e⟩
      rw [decide_eq_false this]; rfl
  have ha : ahead (lagM t s h x).Leaf ((replyOf (standAt last (ent t.Roster s).Who s)).Epoch - (lagM t s h x).Epoch) = ((leafAt (ent last.Roster s) last.Epoch).1, 0) := by
    show ahead (leafAt (ent t.Roster s) t.Epoch).1 (last.Epoch - t.Epoch) = _
    rw [hl, hst, hll]
    unfold ahead
    rw [if_pos (good_iff.2 ⟨by simp only; omega, by simp only; omega, by simp only; omega, by simp only; omega⟩), if_pos ⟨by omega, by simp only; omega⟩]
    simp only [Prod.mk.injEq, Key.mk.injEq, true_and, and_true]
    omega
  obtain ⟨k1, k2⟩ := stand_keys hgl hs honl
  rw [hst] at k1 k2
  have hall : allN 3 (fun i => gives (leafAt (ent last.Roster s) last.Epoch).1 (Arr.get (replyOf (standAt last (ent t.Roster s).Who s)).Path (i : Int)).Under) = true := allN_iff.2 fun i hi => by
    have : Arr.get (replyOf (standAt last (ent t.Roster s).Who s)).Path (i : Int) = ⟨(leafAt (ent last.Roster s) last.Epoch).1, Arr.get (pathK last s) (i : Int)⟩ := by
      unfold replyOf
      simp only
      rw [get_make _ _ (by omega) (by omega)]
      simp only [Int.toNat_natCast]
      rfl
    rw [this]
    exact gives_iff.2 ⟨k1, k1, rfl, Int.le_refl _⟩
  have hlo : loads (replyOf (standAt last (ent t.Roster s).Who s)) = pathK last s := arr_ext fun j h0 h1 => by
    obtain ⟨j, rfl⟩ := Int.eq_ofNat_of_zero_le h0
    rw [loads, get_make _ _ h0 h1, Int.toNat_natCast]
    unfold replyOf
    simp only
    rw [get_make _ _ h0 h1, Int.toNat_natCast]
    rfl
  unfold takeM
  rw [hf, ha, hall, hlo]
  show (calm ⟨(ent t.Roster s).Who, s, last.Epoch, (leafAt (ent last.Roster s) last.Epoch).1, pathK last s, true, false, x⟩, (0 : Int)) = _
  rw [calm_eq]
  by_cases hb : x ≤ last.Epoch
  · rw [if_pos hb, if_pos hb]; rfl
  · rw [if_neg hb, if_neg hb]; rfl
omit hle in
theorem take_lag_old (hst : ent last.Roster s = ent t.Roster s) {x : Int} (hx : x = 0 ∨ t.Epoch + 1 ≤ x ∧ x ≤ 200) (he : last.Epoch = t.Epoch) :
    takeM (lagM t s true x) (replyOf (standAt last (ent t.Roster s).Who s)) = (lagM t s true x, 21) := by
  have honl : isOn last.Roster s = true := by unfold isOn at hon ⊢; rwa [hst]
  have hr := goodReply_stand hgl hs honl
  rw [hst] at hr
  obtain ⟨hk, hgc⟩ := kind_lag hgt hs hon true hx
  have hf : fitsP (lagM t s true x) (replyOf (standAt last (ent t.Roster s).Who s)) = 21 := by
    unfold fitsP
    rw [decide_eq_true hk, hr]
    have e1 : (replyOf (standAt last (ent t.Roster s).Who s)).Who = (lagM t s true x).Who := rfl
    have e2 : (replyOf (standAt last (ent t.Roster s).Who s)).Slot = (lagM t s true x).Slot := rfl
    have e3 : (replyOf (standAt last (ent t.Roster s).Who s)).Epoch = last.Epoch := rfl
    have e4 : (lagM t s true x).Epoch = t.Epoch := rfl
    have e5 : (lagM t s true x).Has = true := rfl
    rw [e1, e2, e3, e4, e5, decide_eq_true rfl, decide_eq_true rfl, decide_eq_true he]
    simp
  unfold takeM
  rw [hf]; rfl
end
theorem again_lag {last : Tree} (hg : goodTree last = true) {s : Nat} (hs : s < 64) (hon : isOn last.Roster s = true) {x : Int} (hx : x = 0 ∨ last.Epoch + 1 ≤ x ∧ x ≤ 200) :
    takeM (withB (standAt last (ent last.Roster s).Who s) x) (replyOf (standAt last (ent last.Roster s).Who s)) = (withB (standAt last (ent last.Roster s).Who s) x, 21) :=
  take_lag_old hg hg hs hon rfl hx rfl
theorem brings_loop (l : Lag) (m : Member) (hs : l.Script.length ≤ 140737488355328) : ∀ (d i : Nat) (last : Tree), i + d = l.Script.length → goodTree last = true → l.Tree.Epoch ≤ last.Epoch →
    ∃ last', goodTree last' = true ∧ l.Tree.Epoch ≤ last'.Epoch ∧ lfp g_law16_RecoveryBrings_r1 (((), (), (), l.Script, (l.Script.length : Int), (i : Int), ()), (l, m, last, ()), ()) = some (((), (), (), ()), (l, m, last', ()), ()) := by
  intro d
  induction d with
  | zero =>
    intro i last hi hg he
    refine ⟨last, hg, he, lfp_inr ?_⟩
    have : ¬ (i : Int) < (l.Script.length : Int) := by omega
    simp only [g_law16_RecoveryBrings_r1, this, decide_false, cond_false]
  | succ d ih =>
    intro i last hi hg he
    have h1 : (i : Int) < (l.Script.length : Int) := by omega
    have h0 : (0 : Int) ≤ (i : Int) := by omega
    have hw : IntKind.i64.wrap ((i : Int) + 1) = ((i + 1 : Nat) : Int) := by rw [i64_in _ (by omega)]; omega
    by_cases hn : (nextT last (lat l.Script (i : Int))).e = 0
    · have hep := nx_epoch hn
      obtain ⟨last', g1, g2, g3⟩ := ih (i + 1) _ (by omega) (nx_good hn) (by omega)
      refine ⟨last', g1, g2, ?_⟩
      rw [← g3]
      apply lfp_inl
      have hne : (nextR last (lat l.Script (i : Int))).2.2 = 0 := by rw [nextR_e]; exact hn
      simp only [g_law16_RecoveryBrings_r1, h1, h0, hw, decide_true, Bool.and_self, cond_true, nextR_is hn]
    · obtain ⟨last', g1, g2, g3⟩ := ih (i + 1) last (by omega) hg he
      refine ⟨last', g1, g2, ?_⟩
      rw [← g3]
      apply lfp_inl
      have hne : ¬ (nextR last (lat l.Script (i : Int))).2.2 = 0 := by rw [nextR_e]; exact hn
      simp only [g_law16_RecoveryBrings_r1, h1, h0, hw, hne, decide_true, decide_false, Bool.and_self, cond_true, cond_false]
theorem fine_lag {l : Lag} (h : Fine (.st .lag) l) : l.Script.length * 48 ≤ 140737488355328 := by
  rw [Fine.st] at h
  have h : Fine (.prod (.st .tree) (.prod (.list (.st .batch)) (.prod .i (.prod .bool (.prod .i .unit))))) (l.Tree, l.Script, l.Who, l.Bare, l.Behind, ()) := h
  rw [Fine.prod, Fine.prod] at h
  exact (Fine.list.1 h.2.1).1
theorem answer_slot {t : Tree} {q : Request} (h : (answerT t q).2 = 0) : ∃ s : Nat, s < 64 ∧ isOn t.Roster s = true ∧ (ent t.Roster s).Who = q.Who ∧ (answerT t q).1.Slot = s := by
  unfold answerT at h ⊢
  cases hg : goodTree t with
  | false => rw [hg] at h; simp at h
  | true =>
    rw [hg] at h
    cases hw : betw q.Who 0 255 with
    | false => rw [hw] at h; simp at h
    | true =>
      rw [hw] at h
      by_cases hs : (stand t q.Who).2 = 0
      case neg => rw [decide_eq_false hs] at h; simp at h
      rw [decide_eq_true hs] at h
      cases he : betw q.Epoch 1 t.Epoch with
      | false => rw [he] at h; simp at h
      | true =>
        obtain ⟨s, h1, _, h3, h4, h5⟩ := stand_good hs
        refine ⟨s, h1, h3, h4, ?_⟩
        rw [decide_eq_true hs, h5]; rfl
def bringsRest (l : Lag) (last : Tree) (mb : Int) (tk : Member × Int) (ans : Reply × Int) : Option (Bool × Unit) :=
  bif !decide (tk.2 = 0) then some (false, ()) else bif !decide ((stand last l.Who).2 = 0) then some (false, ()) else
  bif !decide (tk.1 = Member.mk (stand last l.Who).1.Who (stand last l.Who).1.Slot (stand last l.Who).1.Epoch (stand last l.Who).1.Leaf (stand last l.Who).1.Path (stand last l.Who).1.Has (stand last l.Who).1.Out tk.1.Behind) then some (false, ()) else
  bif !decide (tk.1.Behind = 0) then bif !decide (tk.1.Behind = mb) then some (false, ()) else bif decide (tk.1.Behind ≤ tk.1.Epoch) then some (false, ()) else
    bif decide ((takeM tk.1 ans.1).2 = 21) then some (decide ((takeM tk.1 ans.1).1 = tk.1), ()) else some (false, ())
  else bif decide ((takeM tk.1 ans.1).2 = 21) then some (decide ((takeM tk.1 ans.1).1 = tk.1), ()) else some (false, ())
def bringsBody (l : Lag) (last : Tree) (s : Int) (h : Bool) (m : Member) (mb : Int) : Option (Bool × Unit) :=
  bif !decide ((askM m).2 = 0) then some (false, ()) else bif decide (0 ≤ s) && decide (s < 64) then bif decide (0 ≤ s) && decide (s < 64) then
    bif !decide (Arr.get last.Roster s = Arr.get l.Tree.Roster s) then
      bif !decide ((answerT last (askM m).1).2 = 0) then some (true, ()) else bif !decide ((answerT last (askM m).1).1.Slot = s) then some (true, ()) else bif !decide ((answerT last (askM m).1).1.Epoch = last.Epoch) then some (true, ()) else
      bif decide (0 ≤ s) && decide (s < 64) then some (decide ((Arr.get last.Roster s).Who = l.Who), ()) else none
    else bif !decide ((answerT last (askM m).1).2 = 0) then some (false, ()) else
    bif h then bif decide (last.Epoch = l.Tree.Epoch) then bif decide ((takeM m (answerT last (askM m).1).1).2 = 21) then some (decide ((takeM m (answerT last (askM m).1).1).1 = m), ()) else some (false, ())
      else bringsRest l last mb (takeM m (answerT last (askM m).1).1) (answerT last (askM m).1)
    else bringsRest l last mb (takeM m (answerT last (askM m).1).1) (answerT last (askM m).1)
  else none else none
theorem brings_rest (l : Lag) {last : Tree} (hgt : goodTree l.Tree = true) (hgl : goodTree last = true) (hle : l.Tree.Epoch ≤ last.Epoch) {s : Nat} (hs : s < 64) (hon : isOn l.Tree.Roster s = true) (hw : (ent l.Tree.Roster s).Who = l.Who) (hst : ent last.Roster s = ent l.Tree.Roster s)
    (h : Bool) {x : Int} (hx : x = 0 ∨ l.Tree.Epoch + 1 ≤ x ∧ x ≤ 200) (hno : ¬ (h = true ∧ last.Epoch = l.Tree.Epoch)) :
    bringsRest l last x (takeM (lagM l.Tree s h x) (replyOf (standAt last (ent l.Tree.Roster s).Who s))) (replyOf (standAt last (ent l.Tree.Roster s).Who s), 0) = some (true, ()) := by
  have honl : isOn last.Roster s = true := by unfold isOn at hon ⊢; rwa [hst]
  have htk := take_lag hgt hgl hle hs hon hst h hx hno
  have hsl := stand_on hgl hs honl
  have hep := (goodTree_iff.1 hgl).1
  have hx2 : (if x ≤ last.Epoch then 0 else x) = 0 ∨ last.Epoch + 1 ≤ (if x ≤ last.Epoch then 0 else x) ∧ (if x ≤ last.Epoch then 0 else x) ≤ 200 := by split <;> omega
  have hag := again_lag hgl hs honl hx2
  rw [hst] at hag
  rw [hst, hw] at hsl
  rw [htk, hw]
  rw [hw] at hag
  have b1 : ∀ y, (withB (standAt last l.Who s) y).Behind = y := fun _ => rfl
  have b2 : ∀ y, (withB (standAt last l.Who s) y).Epoch = last.Epoch := fun _ => rfl
  have b3 : ∀ y, Member.mk (standAt last l.Who s).Who (standAt last l.Who s).Slot (standAt last l.Who s).Epoch (standAt last l.Who s).Leaf (standAt last l.Who s).Path (standAt last l.Who s).Has (standAt last l.Who s).Out y = withB (standAt last l.Who s) y := fun _ => rfl
  unfold bringsRest
  simp only [hsl, b1, b2, b3, hag, decide_true, Bool.not_true, cond_false, cond_true]
  by_cases hb : x ≤ last.Epoch
  · simp [hb]
  · have : ¬ x = 0 := by omega
    simp [hb, this]
theorem brings_body (l : Lag) {last : Tree} (hgt : goodTree l.Tree = true) (hgl : goodTree last = true) (hle : l.Tree.Epoch ≤ last.Epoch) {s : Nat} (hs : s < 64) (hon : isOn l.Tree.Roster s = true) (hw : (ent l.Tree.Roster s).Who = l.Who)
    (h : Bool) {x : Int} (hx : x = 0 ∨ l.Tree.Epoch + 1 ≤ x ∧ x ≤ 200) : bringsBody l last s h (lagM l.Tree s h x) x = some (true, ()) := by
  have hask := ask_lag hgt hs hon h hx
  have hep := stand_epoch hgt hs hon
  have s1 : (s : Int) < 64 := by omega
  have s0 : (0 : Int) ≤ (s : Int) := by omega
  unfold bringsBody
  rw [hask]
  simp only [s1, s0, decide_true, Bool.not_true, cond_false, cond_true, Bool.and_self]
  by_cases hst : ent last.Roster s = ent l.Tree.Roster s
  · have honl : isOn last.Roster s = true := by unfold isOn at hon ⊢; rwa [hst]
    have hans := answer_stand hgl hs honl hep.1 hle
    rw [hst] at hans
    rw [show Arr.get last.Roster (s : Int) = Arr.get l.Tree.Roster (s : Int) from hst, hans]
    simp only [decide_true, Bool.not_true, cond_false]
    cases h with
    | false => exact brings_rest l hgt hgl hle hs hon hw hst false hx (fun hc => by cases hc.1)
    | true =>
      simp only [cond_true]
      by_cases he : last.Epoch = l.Tree.Epoch
      · rw [take_lag_old hgt hgl hs hon hst hx he, decide_eq_true he]
        simp
      · rw [decide_eq_false he]
        exact brings_rest l hgt hgl hle hs hon hw hst true hx (fun hc => he hc.2)
  · rw [decide_eq_false (show ¬ Arr.get last.Roster (s : Int) = Arr.get l.Tree.Roster (s : Int) from hst)]
    simp only [Bool.not_false, cond_true]
    by_cases ha : (answerT last ⟨(ent l.Tree.Roster s).Who, l.Tree.Epoch⟩).2 = 0
    case neg => rw [decide_eq_false ha]; rfl
    obtain ⟨k, hk, hkon, hkw, hks⟩ := answer_slot ha
    rw [decide_eq_true ha, hks]
    by_cases e : (k : Int) = (s : Int)
    · have e' : k = s := by omega
      subst e'
      have hkw' : (Arr.get last.Roster (k : Int)).Who = (ent l.Tree.Roster k).Who := hkw
      rw [hkw', hw]
      cases decide ((answerT last ⟨l.Who, l.Tree.Epoch⟩).1.Epoch = last.Epoch) <;> simp
    · rw [decide_eq_false e]; rfl
theorem eq_law16_RecoveryBrings : Eqs c_law16_RecoveryBrings g_law16_RecoveryBrings := Eqs.tot fun (l, _) hf => by
  change Lag at l
  have hsl : l.Script.length * 48 ≤ 140737488355328 := fine_lag hf.1
  simp only [g_law16_RecoveryBrings]
  by_cases hst : (stand l.Tree l.Who).2 = 0
  case neg => simp [hst]
  obtain ⟨s, hs, hgt, hon, hw, he⟩ := stand_good hst
  obtain ⟨last, hgl, hle, hloop⟩ := brings_loop l (standAt l.Tree (ent l.Tree.Roster s).Who s) (by omega) l.Script.length 0 l.Tree (by omega) hgt (Int.le_refl _)
  rw [show ((0 : Nat) : Int) = 0 from rfl] at hloop
  simp only [he, hloop, decide_true, Bool.not_true, cond_false, Option.bind_some]
  have f2 : (standAt l.Tree (ent l.Tree.Roster s).Who s).Epoch = l.Tree.Epoch := rfl
  have body := fun (h : Bool) (x : Int) hx => brings_body l hgt hgl hle hs hon hw h (x := x) hx
  rw [f2]
  by_cases h1 : l.Tree.Epoch < l.Behind
  · by_cases h2 : l.Behind ≤ 200
    · rw [decide_eq_true h1, decide_eq_true h2]
      cases l.Bare with
      | true => exact body false l.Behind (.inr ⟨by omega, h2⟩)
      | false => exact body true l.Behind (.inr ⟨by omega, h2⟩)
    · rw [decide_eq_true h1, decide_eq_false h2]
      cases l.Bare with
      | true => exact body false 0 (.inl rfl)
      | false => exact body true 0 (.inl rfl)
  · rw [decide_eq_false h1]
    cases l.Bare with
    | true => exact body false 0 (.inl rfl)
    | false => exact body true 0 (.inl rfl)
end Go.Co.N
end

section
namespace Go.Proofs.Ytnepdmajobfcdaa
open Go Go.Co Go.Co.N Go.Proofs
noncomputable def L_key_Good : List (Nat × LD) := []
noncomputable def Ls_key_Good : List (Nat × List (Nat × LD)) := []
noncomputable def B_key_Good : Bodies := []
theorem run_key_Good (x : denL [(.st .key)]) : run [] L_key_Good Ls_key_Good B_key_Good Try.f52 [(.st .key)] [.bool] x = g_key_Good x := by kernel_rfl
theorem ok_key_Good : ConOK Try.prog 52 c_key_Good := con_ok (ConsOK.nil) L_key_Good Ls_key_Good (B := B_key_Good) (BodiesOK.nil) Try.func52 rfl fun x y hf h => (run_key_Good x).trans (eq_key_Good x y hf h)
noncomputable def L_ref02_Good : List (Nat × LD) := []
noncomputable def Ls_ref02_Good : List (Nat × List (Nat × LD)) := []
noncomputable def B_ref02_Good : Bodies := []
theorem run_ref02_Good (x : denL [(.st .key)]) : run [] L_ref02_Good Ls_ref02_Good B_ref02_Good Try.f16 [(.st .key)] [.bool] x = g_ref02_Good x := by kernel_rfl
theorem ok_ref02_Good : ConOK Try.prog 16 c_ref02_Good := con_ok (ConsOK.nil) L_ref02_Good Ls_ref02_Good (B := B_ref02_Good) (BodiesOK.nil) Try.func16 rfl fun x y hf h => (run_ref02_Good x).trans (eq_ref02_Good x y hf h)
noncomputable def L_ref02_Ahead : List (Nat × LD) := [(6, ⟨⟨[(1, .hole .i), (2, .ptr 0 []), (4, .ptr 1 []), (6, .hole .i)], [(0, (.st .key), .hole (.st .key)), (1, (.st .key), .hole (.st .key))], []⟩, [(.exit 0, ⟨[(2, .ptr 0 []), (4, .ptr 1 [])], [(0, (.st .key), .hole (.st .key)), (1, (.st .key), .hole (.st .key))], []⟩)], 10⟩)]
noncomputable def Ls_ref02_Ahead : List (Nat × List (Nat × LD)) := []
noncomputable def B_ref02_Ahead : Bodies := []
theorem run_ref02_Ahead (x : denL [(.st .key), .i]) : run [(16, c_ref02_Good)] L_ref02_Ahead Ls_ref02_Ahead B_ref02_Ahead Try.f34 [(.st .key), .i] [(.st .key), .i] x = g_ref02_Ahead x := by kernel_rfl
theorem ok_ref02_Ahead : ConOK Try.prog 34 c_ref02_Ahead := con_ok (ConsOK.cons ok_ref02_Good (ConsOK.nil)) L_ref02_Ahead Ls_ref02_Ahead (B := B_ref02_Ahead) (BodiesOK.nil) Try.func34 rfl fun x y hf h => (run_ref02_Ahead x).trans (eq_ref02_Ahead x y hf h)
noncomputable def L_ref02_Gives : List (Nat × LD) := []
noncomputable def Ls_ref02_Gives : List (Nat × List (Nat × LD)) := []
noncomputable def B_ref02_Gives : Bodies := []
theorem run_ref02_Gives (x : denL [(.st .key), (.st .key)]) : run [(16, c_ref02_Good)] L_ref02_Gives Ls_ref02_Gives B_ref02_Gives Try.f17 [(.st .key), (.st .key)] [.bool] x = g_ref02_Gives x := by kernel_rfl
theorem ok_ref02_Gives : ConOK Try.prog 17 c_ref02_Gives := con_ok (ConsOK.cons ok_ref02_Good (ConsOK.nil)) L_ref02_Gives Ls_ref02_Gives (B := B_ref02_Gives) (BodiesOK.nil) Try.func17 rfl fun x y hf h => (run_ref02_Gives x).trans (eq_ref02_Gives x y hf h)
noncomputable def L_key_Ahead : List (Nat × LD) := []
noncomputable def Ls_key_Ahead : List (Nat × List (Nat × LD)) := []
noncomputable def B_key_Ahead : Bodies := []
theorem run_key_Ahead (x : denL [(.st .key), .i]) : run [(52, c_key_Good)] L_key_Ahead Ls_key_Ahead B_key_Ahead Try.f56 [(.st .key), .i] [(.st .key), .i] x = g_key_Ahead x := by kernel_rfl
theorem ok_key_Ahead : ConOK Try.prog 56 c_key_Ahead := con_ok (ConsOK.cons ok_key_Good (ConsOK.nil)) L_key_Ahead Ls_key_Ahead (B := B_key_Ahead) (BodiesOK.nil) Try.func56 rfl fun x y hf h => (run_key_Ahead x).trans (eq_key_Ahead x y hf h)
noncomputable def L_key_Gives : List (Nat × LD) := []
noncomputable def Ls_key_Gives : List (Nat × List (Nat × LD)) := []
noncomputable def B_key_Gives : Bodies := []
theorem run_key_Gives (x : denL [(.st .key), (.st .key)]) : run [(52, c_key_Good)] L_key_Gives Ls_key_Gives B_key_Gives Try.f57 [(.st .key), (.st .key)] [.bool] x = g_key_Gives x := by kernel_rfl
theorem ok_key_Gives : ConOK Try.prog 57 c_key_Gives := con_ok (ConsOK.cons ok_key_Good (ConsOK.nil)) L_key_Gives Ls_key_Gives (B := B_key_Gives) (BodiesOK.nil) Try.func57 rfl fun x y hf h => (run_key_Gives x).trans (eq_key_Gives x y hf h)
noncomputable def L_key_Open : List (Nat × LD) := []
noncomputable def Ls_key_Open : List (Nat × List (Nat × LD)) := []
noncomputable def B_key_Open : Bodies := []
theorem run_key_Open (x : denL [(.st .box), (.st .key)]) : run [(52, c_key_Good), (57, c_key_Gives)] L_key_Open Ls_key_Open B_key_Open Try.f32 [(.st .box), (.st .key)] [(.st .key), .i] x = g_key_Open x := by kernel_rfl
theorem ok_key_Open : ConOK Try.prog 32 c_key_Open := con_ok (ConsOK.cons ok_key_Good (ConsOK.cons ok_key_Gives (ConsOK.nil))) L_key_Open Ls_key_Open (B := B_key_Open) (BodiesOK.nil) Try.func32 rfl fun x y hf h => (run_key_Open x).trans (eq_key_Open x y hf h)
noncomputable def L_key_Seal : List (Nat × LD) := []
noncomputable def Ls_key_Seal : List (Nat × List (Nat × LD)) := []
noncomputable def B_key_Seal : Bodies := []
theorem run_key_Seal (x : denL [(.st .key), (.st .key)]) : run [(52, c_key_Good)] L_key_Seal Ls_key_Seal B_key_Seal Try.f28 [(.st .key), (.st .key)] [(.st .box), .i] x = g_key_Seal x := by kernel_rfl
theorem ok_key_Seal : ConOK Try.prog 28 c_key_Seal := con_ok (ConsOK.cons ok_key_Good (ConsOK.nil)) L_key_Seal Ls_key_Seal (B := B_key_Seal) (BodiesOK.nil) Try.func28 rfl fun x y hf h => (run_key_Seal x).trans (eq_key_Seal x y hf h)
noncomputable def L_ref02_GoodBox : List (Nat × LD) := []
noncomputable def Ls_ref02_GoodBox : List (Nat × List (Nat × LD)) := []
noncomputable def B_ref02_GoodBox : Bodies := []
theorem run_ref02_GoodBox (x : denL [(.st .box)]) : run [(16, c_ref02_Good)] L_ref02_GoodBox Ls_ref02_GoodBox B_ref02_GoodBox Try.f58 [(.st .box)] [.bool] x = g_ref02_GoodBox x := by kernel_rfl
theorem ok_ref02_GoodBox : ConOK Try.prog 58 c_ref02_GoodBox := con_ok (ConsOK.cons ok_ref02_Good (ConsOK.nil)) L_ref02_GoodBox Ls_ref02_GoodBox (B := B_ref02_GoodBox) (BodiesOK.nil) Try.func58 rfl fun x y hf h => (run_ref02_GoodBox x).trans (eq_ref02_GoodBox x y hf h)
noncomputable def L_ref02_Open : List (Nat × LD) := []
noncomputable def Ls_ref02_Open : List (Nat × List (Nat × LD)) := []
noncomputable def B_ref02_Open : Bodies := []
theorem run_ref02_Open (x : denL [(.st .box), (.st .key)]) : run [(58, c_ref02_GoodBox), (16, c_ref02_Good), (17, c_ref02_Gives)] L_ref02_Open Ls_ref02_Open B_ref02_Open Try.f35 [(.st .box), (.st .key)] [(.st .key), .i] x = g_ref02_Open x := by kernel_rfl
theorem ok_ref02_Open : ConOK Try.prog 35 c_ref02_Open := con_ok (ConsOK.cons ok_ref02_GoodBox (ConsOK.cons ok_ref02_Good (ConsOK.cons ok_ref02_Gives (ConsOK.nil)))) L_ref02_Open Ls_ref02_Open (B := B_ref02_Open) (BodiesOK.nil) Try.func35 rfl fun x y hf h => (run_ref02_Open x).trans (eq_ref02_Open x y hf h)
noncomputable def L_ratchet_Check : List (Nat × LD) := [(3, ⟨⟨[(3, .mp 1), (7, .hole (.arr 21 (.st .key))), (8, .hole .i)], [], [(1, .i, .i)]⟩, [(.ret, ⟨[(2, .hole .i)], [], []⟩), (.exit 0, ⟨[], [], []⟩)], 11⟩)]
noncomputable def Ls_ratchet_Check : List (Nat × List (Nat × LD)) := []
noncomputable def B_ratchet_Check : Bodies := []
theorem run_ratchet_Check (x : denL [(.arr 21 (.st .key))]) : run [(52, c_key_Good)] L_ratchet_Check Ls_ratchet_Check B_ratchet_Check Try.f48 [(.arr 21 (.st .key))] [.i] x = g_ratchet_Check x := by kernel_rfl
theorem ok_ratchet_Check : ConOK Try.prog 48 c_ratchet_Check := con_ok (ConsOK.cons ok_key_Good (ConsOK.nil)) L_ratchet_Check Ls_ratchet_Check (B := B_ratchet_Check) (BodiesOK.nil) Try.func48 rfl fun x y hf h => (run_ratchet_Check x).trans (eq_ratchet_Check x y hf h)
noncomputable def L_ref10_Check : List (Nat × LD) := [(7, ⟨⟨[(1, .ptr 0 []), (3, .hole .i), (4, .hole .i)], [(0, (.arr 21 (.st .key)), .hole (.arr 21 (.st .key)))], []⟩, [(.ret, ⟨[(2, .hole .i)], [], []⟩), (.exit 2, ⟨[(1, .ptr 0 []), (3, .hole .i)], [(0, (.arr 21 (.st .key)), .hole (.arr 21 (.st .key)))], []⟩)], 10⟩), (2, ⟨⟨[(1, .ptr 0 []), (3, .hole .i)], [(0, (.arr 21 (.st .key)), .hole (.arr 21 (.st .key)))], []⟩, [(.ret, ⟨[(2, .hole .i)], [], []⟩), (.exit 0, ⟨[], [], []⟩)], 20⟩)]
noncomputable def Ls_ref10_Check : List (Nat × List (Nat × LD)) := []
noncomputable def B_ref10_Check : Bodies := []
theorem run_ref10_Check (x : denL [(.arr 21 (.st .key))]) : run [(16, c_ref02_Good)] L_ref10_Check Ls_ref10_Check B_ref10_Check Try.f53 [(.arr 21 (.st .key))] [.i] x = g_ref10_Check x := by kernel_rfl
theorem ok_ref10_Check : ConOK Try.prog 53 c_ref10_Check := con_ok (ConsOK.cons ok_ref02_Good (ConsOK.nil)) L_ref10_Check Ls_ref10_Check (B := B_ref10_Check) (BodiesOK.nil) Try.func53 rfl fun x y hf h => (run_ref10_Check x).trans (eq_ref10_Check x y hf h)
noncomputable def L_ratchet_LeafAt : List (Nat × LD) := []
noncomputable def Ls_ratchet_LeafAt : List (Nat × List (Nat × LD)) := []
noncomputable def B_ratchet_LeafAt : Bodies := []
theorem run_ratchet_LeafAt (x : denL [(.st .entry), .i]) : run [(56, c_key_Ahead)] L_ratchet_LeafAt Ls_ratchet_LeafAt B_ratchet_LeafAt Try.f74 [(.st .entry), .i] [(.st .key), .i] x = g_ratchet_LeafAt x := by kernel_rfl
theorem ok_ratchet_LeafAt : ConOK Try.prog 74 c_ratchet_LeafAt := con_ok (ConsOK.cons ok_key_Ahead (ConsOK.nil)) L_ratchet_LeafAt Ls_ratchet_LeafAt (B := B_ratchet_LeafAt) (BodiesOK.nil) Try.func74 rfl fun x y hf h => (run_ratchet_LeafAt x).trans (eq_ratchet_LeafAt x y hf h)
noncomputable def L_ref10_LeafAt : List (Nat × LD) := []
noncomputable def Ls_ref10_LeafAt : List (Nat × List (Nat × LD)) := []
noncomputable def B_ref10_LeafAt : Bodies := []
theorem run_ref10_LeafAt (x : denL [(.st .entry), .i]) : run [] L_ref10_LeafAt Ls_ref10_LeafAt B_ref10_LeafAt Try.f39 [(.st .entry), .i] [(.st .key), .i] x = g_ref10_LeafAt x := by kernel_rfl
theorem ok_ref10_LeafAt : ConOK Try.prog 39 c_ref10_LeafAt := con_ok (ConsOK.nil) L_ref10_LeafAt Ls_ref10_LeafAt (B := B_ref10_LeafAt) (BodiesOK.nil) Try.func39 rfl fun x y hf h => (run_ref10_LeafAt x).trans (eq_ref10_LeafAt x y hf h)
noncomputable def L_ratchet_Follow : List (Nat × LD) := [(3, ⟨⟨[(1, .hole .i), (2, .ptr 0 []), (4, .ptr 1 []), (6, .hole .i), (11, .hole (.arr 3 (.st .key))), (12, .hole .i)], [(0, (.arr 3 (.st .key)), .hole (.arr 3 (.st .key))), (1, (.arr 3 (.st .key)), .hole (.arr 3 (.st .key)))], []⟩, [(.exit 0, ⟨[(2, .ptr 0 []), (4, .ptr 1 []), (6, .hole .i)], [(0, (.arr 3 (.st .key)), .hole (.arr 3 (.st .key))), (1, (.arr 3 (.st .key)), .hole (.arr 3 (.st .key)))], []⟩)], 12⟩)]
noncomputable def Ls_ratchet_Follow : List (Nat × List (Nat × LD)) := []
noncomputable def B_ratchet_Follow : Bodies := []
theorem run_ratchet_Follow (x : denL [(.arr 3 (.st .key)), .i]) : run [(56, c_key_Ahead)] L_ratchet_Follow Ls_ratchet_Follow B_ratchet_Follow Try.f31 [(.arr 3 (.st .key)), .i] [(.arr 3 (.st .key)), .i] x = g_ratchet_Follow x := by kernel_rfl
theorem ok_ratchet_Follow : ConOK Try.prog 31 c_ratchet_Follow := con_ok (ConsOK.cons ok_key_Ahead (ConsOK.nil)) L_ratchet_Follow Ls_ratchet_Follow (B := B_ratchet_Follow) (BodiesOK.nil) Try.func31 rfl fun x y hf h => (run_ratchet_Follow x).trans (eq_ratchet_Follow x y hf h)
noncomputable def L_ref01_In : List (Nat × LD) := [(4, ⟨⟨[(0, .hole (.int .u32)), (1, .hole .i), (5, .hole .i)], [], []⟩, [(.exit 0, ⟨[(0, .hole (.int .u32))], [], []⟩)], 10⟩)]
noncomputable def Ls_ref01_In : List (Nat × List (Nat × LD)) := []
noncomputable def B_ref01_In : Bodies := []
theorem run_ref01_In (x : denL [(.int .u32), .i]) : run [] L_ref01_In Ls_ref01_In B_ref01_In Try.f66 [(.int .u32), .i] [.bool] x = g_ref01_In x := by kernel_rfl
theorem ok_ref01_In : ConOK Try.prog 66 c_ref01_In := con_ok (ConsOK.nil) L_ref01_In Ls_ref01_In (B := B_ref01_In) (BodiesOK.nil) Try.func66 rfl fun x y hf h => (run_ref01_In x).trans (eq_ref01_In x y hf h)
noncomputable def L_ref10_count : List (Nat × LD) := [(3, ⟨⟨[(0, .hole (.int .u32)), (3, .hole .i), (4, .hole .i)], [], []⟩, [(.exit 0, ⟨[(3, .hole .i)], [], []⟩)], 10⟩)]
noncomputable def Ls_ref10_count : List (Nat × List (Nat × LD)) := []
noncomputable def B_ref10_count : Bodies := []
theorem run_ref10_count (x : denL [(.int .u32)]) : run [(66, c_ref01_In)] L_ref10_count Ls_ref10_count B_ref10_count Try.f89 [(.int .u32)] [.i] x = g_ref10_count x := by kernel_rfl
theorem ok_ref10_count : ConOK Try.prog 89 c_ref10_count := con_ok (ConsOK.cons ok_ref01_In (ConsOK.nil)) L_ref10_count Ls_ref10_count (B := B_ref10_count) (BodiesOK.nil) Try.func89 rfl fun x y hf h => (run_ref10_count x).trans (eq_ref10_count x y hf h)
noncomputable def L_ref10_Turn : List (Nat × LD) := [(4, ⟨⟨[(1, .hole (.int .u32)), (2, .hole .i), (3, .ptr 0 []), (6, .ptr 1 []), (9, .hole .i)], [(0, (.arr 21 (.st .key)), .hole (.arr 21 (.st .key))), (1, (.arr 21 (.st .key)), .hole (.arr 21 (.st .key)))], []⟩, [(.ret, ⟨[(6, .ptr 1 []), (7, .hole .i), (8, .hole .i)], [(1, (.arr 21 (.st .key)), .hole (.arr 21 (.st .key)))], []⟩), (.exit 0, ⟨[(1, .hole (.int .u32)), (2, .hole .i), (3, .ptr 0 []), (6, .ptr 1 [])], [(0, (.arr 21 (.st .key)), .hole (.arr 21 (.st .key))), (1, (.arr 21 (.st .key)), .hole (.arr 21 (.st .key)))], []⟩)], 10⟩), (12, ⟨⟨[(1, .hole (.int .u32)), (2, .hole .i), (3, .ptr 0 []), (6, .ptr 1 []), (10, .hole .i), (11, .hole .i)], [(0, (.arr 21 (.st .key)), .hole (.arr 21 (.st .key))), (1, (.arr 21 (.st .key)), .hole (.arr 21 (.st .key)))], []⟩, [(.ret, ⟨[(6, .ptr 1 []), (7, .hole .i), (8, .hole .i)], [(1, (.arr 21 (.st .key)), .hole (.arr 21 (.st .key)))], []⟩), (.exit 2, ⟨[(1, .hole (.int .u32)), (2, .hole .i), (3, .ptr 0 []), (6, .ptr 1 [])], [(0, (.arr 21 (.st .key)), .hole (.arr 21 (.st .key))), (1, (.arr 21 (.st .key)), .hole (.arr 21 (.st .key)))], []⟩)], 10⟩), (17, ⟨⟨[(1, .hole (.int .u32)), (2, .hole .i), (3, .ptr 0 []), (6, .ptr 1 []), (12, .hole .i)], [(0, (.arr 21 (.st .key)), .hole (.arr 21 (.st .key))), (1, (.arr 21 (.st .key)), .hole (.arr 21 (.st .key)))], []⟩, [(.ret, ⟨[(6, .ptr 1 []), (7, .hole .i), (8, .hole .i)], [(1, (.arr 21 (.st .key)), .hole (.arr 21 (.st .key)))], []⟩), (.exit 4, ⟨[(2, .hole .i), (3, .ptr 0 []), (6, .ptr 1 [])], [(0, (.arr 21 (.st .key)), .hole (.arr 21 (.st .key))), (1, (.arr 21 (.st .key)), .hole (.arr 21 (.st .key)))], []⟩)], 11⟩)]
noncomputable def Ls_ref10_Turn : List (Nat × List (Nat × LD)) := []
noncomputable def B_ref10_Turn : Bodies := []
theorem run_ref10_Turn (x : denL [(.arr 21 (.st .key)), (.int .u32), .i]) : run [(53, c_ref10_Check), (66, c_ref01_In), (89, c_ref10_count), (34, c_ref02_Ahead)] L_ref10_Turn Ls_ref10_Turn B_ref10_Turn Try.f63 [(.arr 21 (.st .key)), (.int .u32), .i] [(.arr 21 (.st .key)), .i, .i] x = g_ref10_Turn x := by kernel_rfl
theorem ok_ref10_Turn : ConOK Try.prog 63 c_ref10_Turn := con_ok (ConsOK.cons ok_ref10_Check (ConsOK.cons ok_ref01_In (ConsOK.cons ok_ref10_count (ConsOK.cons ok_ref02_Ahead (ConsOK.nil))))) L_ref10_Turn Ls_ref10_Turn (B := B_ref10_Turn) (BodiesOK.nil) Try.func63 rfl fun x y hf h => (run_ref10_Turn x).trans (eq_ref10_Turn x y hf h)
noncomputable def L_ref01_Node : List (Nat × LD) := []
noncomputable def Ls_ref01_Node : List (Nat × List (Nat × LD)) := []
noncomputable def B_ref01_Node : Bodies := []
theorem run_ref01_Node (x : denL [.i]) : run [] L_ref01_Node Ls_ref01_Node B_ref01_Node Try.f70 [.i] [.bool] x = g_ref01_Node x := by kernel_rfl
theorem ok_ref01_Node : ConOK Try.prog 70 c_ref01_Node := con_ok (ConsOK.nil) L_ref01_Node Ls_ref01_Node (B := B_ref01_Node) (BodiesOK.nil) Try.func70 rfl fun x y hf h => (run_ref01_Node x).trans (eq_ref01_Node x y hf h)
noncomputable def L_ref01_Child : List (Nat × LD) := []
noncomputable def Ls_ref01_Child : List (Nat × List (Nat × LD)) := []
noncomputable def B_ref01_Child : Bodies := []
theorem run_ref01_Child (x : denL [.i, .i]) : run [] L_ref01_Child Ls_ref01_Child B_ref01_Child Try.f67 [.i, .i] [.i] x = g_ref01_Child x := by kernel_rfl
theorem ok_ref01_Child : ConOK Try.prog 67 c_ref01_Child := con_ok (ConsOK.nil) L_ref01_Child Ls_ref01_Child (B := B_ref01_Child) (BodiesOK.nil) Try.func67 rfl fun x y hf h => (run_ref01_Child x).trans (eq_ref01_Child x y hf h)
noncomputable def L_ref01_Parent : List (Nat × LD) := [(7, ⟨⟨[(0, .hole .i), (3, .hole .i), (4, .hole .i)], [], []⟩, [(.ret, ⟨[(2, .hole .i)], [], []⟩), (.exit 2, ⟨[(0, .hole .i), (3, .hole .i)], [], []⟩)], 10⟩), (4, ⟨⟨[(0, .hole .i), (3, .hole .i)], [], []⟩, [(.ret, ⟨[(2, .hole .i)], [], []⟩), (.exit 0, ⟨[], [], []⟩)], 20⟩)]
noncomputable def Ls_ref01_Parent : List (Nat × List (Nat × LD)) := []
noncomputable def B_ref01_Parent : Bodies := []
theorem run_ref01_Parent (x : denL [.i]) : run [(67, c_ref01_Child)] L_ref01_Parent Ls_ref01_Parent B_ref01_Parent Try.f45 [.i] [.i] x = g_ref01_Parent x := by kernel_rfl
theorem ok_ref01_Parent : ConOK Try.prog 45 c_ref01_Parent := con_ok (ConsOK.cons ok_ref01_Child (ConsOK.nil)) L_ref01_Parent Ls_ref01_Parent (B := B_ref01_Parent) (BodiesOK.nil) Try.func45 rfl fun x y hf h => (run_ref01_Parent x).trans (eq_ref01_Parent x y hf h)
noncomputable def L_ref01_Leaf : List (Nat × LD) := []
noncomputable def Ls_ref01_Leaf : List (Nat × List (Nat × LD)) := []
noncomputable def B_ref01_Leaf : Bodies := []
theorem run_ref01_Leaf (x : denL [.i]) : run [] L_ref01_Leaf Ls_ref01_Leaf B_ref01_Leaf Try.f44 [.i] [.i] x = g_ref01_Leaf x := by kernel_rfl
theorem ok_ref01_Leaf : ConOK Try.prog 44 c_ref01_Leaf := con_ok (ConsOK.nil) L_ref01_Leaf Ls_ref01_Leaf (B := B_ref01_Leaf) (BodiesOK.nil) Try.func44 rfl fun x y hf h => (run_ref01_Leaf x).trans (eq_ref01_Leaf x y hf h)
noncomputable def L_ref01_Path : List (Nat × LD) := [(6, ⟨⟨[(2, .ptr 0 []), (4, .ptr 1 []), (5, .hole .i), (6, .hole .i)], [(0, (.arr 3 .i), .hole (.arr 3 .i)), (1, (.arr 3 .i), .hole (.arr 3 .i))], []⟩, [(.exit 0, ⟨[(2, .ptr 0 []), (4, .ptr 1 [])], [(0, (.arr 3 .i), .hole (.arr 3 .i)), (1, (.arr 3 .i), .hole (.arr 3 .i))], []⟩)], 10⟩)]
noncomputable def Ls_ref01_Path : List (Nat × List (Nat × LD)) := []
noncomputable def B_ref01_Path : Bodies := []
theorem run_ref01_Path (x : denL [.i]) : run [(44, c_ref01_Leaf), (45, c_ref01_Parent)] L_ref01_Path Ls_ref01_Path B_ref01_Path Try.f20 [.i] [(.arr 3 .i), .bool] x = g_ref01_Path x := by kernel_rfl
theorem ok_ref01_Path : ConOK Try.prog 20 c_ref01_Path := con_ok (ConsOK.cons ok_ref01_Leaf (ConsOK.cons ok_ref01_Parent (ConsOK.nil))) L_ref01_Path Ls_ref01_Path (B := B_ref01_Path) (BodiesOK.nil) Try.func20 rfl fun x y hf h => (run_ref01_Path x).trans (eq_ref01_Path x y hf h)
noncomputable def L_ref01_Below : List (Nat × LD) := [(3, ⟨⟨[(0, .hole .i), (1, .hole .i)], [], []⟩, [(.exit 0, ⟨[(0, .hole .i), (1, .hole .i)], [], []⟩)], 10⟩)]
noncomputable def Ls_ref01_Below : List (Nat × List (Nat × LD)) := []
noncomputable def B_ref01_Below : Bodies := []
theorem run_ref01_Below (x : denL [.i, .i]) : run [(70, c_ref01_Node), (45, c_ref01_Parent)] L_ref01_Below Ls_ref01_Below B_ref01_Below Try.f90 [.i, .i] [.bool] x = g_ref01_Below x := by kernel_rfl
theorem ok_ref01_Below : ConOK Try.prog 90 c_ref01_Below := con_ok (ConsOK.cons ok_ref01_Node (ConsOK.cons ok_ref01_Parent (ConsOK.nil))) L_ref01_Below Ls_ref01_Below (B := B_ref01_Below) (BodiesOK.nil) Try.func90 rfl fun x y hf h => (run_ref01_Below x).trans (eq_ref01_Below x y hf h)
noncomputable def L_shape_first : List (Nat × LD) := []
noncomputable def Ls_shape_first : List (Nat × List (Nat × LD)) := []
noncomputable def B_shape_first : Bodies := []
theorem run_shape_first (x : denL [.i]) : run [] L_shape_first Ls_shape_first B_shape_first Try.f98 [.i] [.i] x = g_shape_first x := by kernel_rfl
theorem ok_shape_first : ConOK Try.prog 98 c_shape_first := con_ok (ConsOK.nil) L_shape_first Ls_shape_first (B := B_shape_first) (BodiesOK.nil) Try.func98 rfl fun x y hf h => (run_shape_first x).trans (eq_shape_first x y hf h)
noncomputable def L_shape_Level : List (Nat × LD) := [(5, ⟨⟨[(0, .hole .i), (3, .hole .i)], [], []⟩, [(.ret, ⟨[(2, .hole .i)], [], []⟩)], 10⟩)]
noncomputable def Ls_shape_Level : List (Nat × List (Nat × LD)) := []
noncomputable def B_shape_Level : Bodies := []
theorem run_shape_Level (x : denL [.i]) : run [(98, c_shape_first)] L_shape_Level Ls_shape_Level B_shape_Level Try.f103 [.i] [.i] x = g_shape_Level x := by kernel_rfl
theorem ok_shape_Level : ConOK Try.prog 103 c_shape_Level := con_ok (ConsOK.cons ok_shape_first (ConsOK.nil)) L_shape_Level Ls_shape_Level (B := B_shape_Level) (BodiesOK.nil) Try.func103 rfl fun x y hf h => (run_shape_Level x).trans (eq_shape_Level x y hf h)
noncomputable def L_shape_span : List (Nat × LD) := []
noncomputable def Ls_shape_span : List (Nat × List (Nat × LD)) := []
noncomputable def B_shape_span : Bodies := []
theorem run_shape_span (x : denL [.i]) : run [(103, c_shape_Level), (98, c_shape_first)] L_shape_span Ls_shape_span B_shape_span Try.f106 [.i] [.i, .i] x = g_shape_span x := by kernel_rfl
theorem ok_shape_span : ConOK Try.prog 106 c_shape_span := con_ok (ConsOK.cons ok_shape_Level (ConsOK.cons ok_shape_first (ConsOK.nil))) L_shape_span Ls_shape_span (B := B_shape_span) (BodiesOK.nil) Try.func106 rfl fun x y hf h => (run_shape_span x).trans (eq_shape_span x y hf h)
noncomputable def L_shape_Mask : List (Nat × LD) := []
noncomputable def Ls_shape_Mask : List (Nat × List (Nat × LD)) := []
noncomputable def B_shape_Mask : Bodies := []
theorem run_shape_Mask (x : denL [.i]) : run [(103, c_shape_Level), (106, c_shape_span)] L_shape_Mask Ls_shape_Mask B_shape_Mask Try.f104 [.i] [(.int .u64)] x = g_shape_Mask x := by kernel_rfl
theorem ok_shape_Mask : ConOK Try.prog 104 c_shape_Mask := con_ok (ConsOK.cons ok_shape_Level (ConsOK.cons ok_shape_span (ConsOK.nil))) L_shape_Mask Ls_shape_Mask (B := B_shape_Mask) (BodiesOK.nil) Try.func104 rfl fun x y hf h => (run_shape_Mask x).trans (eq_shape_Mask x y hf h)
noncomputable def L_shape_Below : List (Nat × LD) := []
noncomputable def Ls_shape_Below : List (Nat × List (Nat × LD)) := []
noncomputable def B_shape_Below : Bodies := []
theorem run_shape_Below (x : denL [.i, .i]) : run [(103, c_shape_Level), (104, c_shape_Mask)] L_shape_Below Ls_shape_Below B_shape_Below Try.f99 [.i, .i] [.bool] x = g_shape_Below x := by kernel_rfl
theorem ok_shape_Below : ConOK Try.prog 99 c_shape_Below := con_ok (ConsOK.cons ok_shape_Level (ConsOK.cons ok_shape_Mask (ConsOK.nil))) L_shape_Below Ls_shape_Below (B := B_shape_Below) (BodiesOK.nil) Try.func99 rfl fun x y hf h => (run_shape_Below x).trans (eq_shape_Below x y hf h)
noncomputable def L_shape_Leaf : List (Nat × LD) := []
noncomputable def Ls_shape_Leaf : List (Nat × List (Nat × LD)) := []
noncomputable def B_shape_Leaf : Bodies := []
theorem run_shape_Leaf (x : denL [.i]) : run [] L_shape_Leaf Ls_shape_Leaf B_shape_Leaf Try.f97 [.i] [.i] x = g_shape_Leaf x := by kernel_rfl
theorem ok_shape_Leaf : ConOK Try.prog 97 c_shape_Leaf := con_ok (ConsOK.nil) L_shape_Leaf Ls_shape_Leaf (B := B_shape_Leaf) (BodiesOK.nil) Try.func97 rfl fun x y hf h => (run_shape_Leaf x).trans (eq_shape_Leaf x y hf h)
noncomputable def L_shape_Path : List (Nat × LD) := [(5, ⟨⟨[(0, .hole .i), (2, .ptr 0 []), (4, .ptr 1 []), (11, .hole .i)], [(0, (.arr 3 .i), .hole (.arr 3 .i)), (1, (.arr 3 .i), .hole (.arr 3 .i))], []⟩, [(.exit 0, ⟨[(2, .ptr 0 []), (4, .ptr 1 [])], [(0, (.arr 3 .i), .hole (.arr 3 .i)), (1, (.arr 3 .i), .hole (.arr 3 .i))], []⟩)], 10⟩)]
noncomputable def Ls_shape_Path : List (Nat × List (Nat × LD)) := []
noncomputable def B_shape_Path : Bodies := []
theorem run_shape_Path (x : denL [.i]) : run [(97, c_shape_Leaf), (98, c_shape_first)] L_shape_Path Ls_shape_Path B_shape_Path Try.f75 [.i] [(.arr 3 .i), .bool] x = g_shape_Path x := by kernel_rfl
theorem ok_shape_Path : ConOK Try.prog 75 c_shape_Path := con_ok (ConsOK.cons ok_shape_Leaf (ConsOK.cons ok_shape_first (ConsOK.nil))) L_shape_Path Ls_shape_Path (B := B_shape_Path) (BodiesOK.nil) Try.func75 rfl fun x y hf h => (run_shape_Path x).trans (eq_shape_Path x y hf h)
noncomputable def L_roster_right : List (Nat × LD) := []
noncomputable def Ls_roster_right : List (Nat × List (Nat × LD)) := []
noncomputable def B_roster_right : Bodies := []
theorem run_roster_right (x : denL [(.st .entry)]) : run [] L_roster_right Ls_roster_right B_roster_right Try.f72 [(.st .entry)] [.bool] x = g_roster_right x := by kernel_rfl
theorem ok_roster_right : ConOK Try.prog 72 c_roster_right := con_ok (ConsOK.nil) L_roster_right Ls_roster_right (B := B_roster_right) (BodiesOK.nil) Try.func72 rfl fun x y hf h => (run_roster_right x).trans (eq_roster_right x y hf h)
noncomputable def L_roster_Check : List (Nat × LD) := [(3, ⟨⟨[(3, .mp 1), (4, .mp 2), (9, .hole (.arr 64 (.st .entry))), (10, .hole .i)], [], [(1, .i, .i), (2, .i, .i)]⟩, [(.ret, ⟨[(2, .hole .i)], [], []⟩), (.exit 0, ⟨[], [], []⟩)], 11⟩)]
noncomputable def Ls_roster_Check : List (Nat × List (Nat × LD)) := []
noncomputable def B_roster_Check : Bodies := []
theorem run_roster_Check (x : denL [(.arr 64 (.st .entry))]) : run [(72, c_roster_right)] L_roster_Check Ls_roster_Check B_roster_Check Try.f49 [(.arr 64 (.st .entry))] [.i] x = g_roster_Check x := by kernel_rfl
theorem ok_roster_Check : ConOK Try.prog 49 c_roster_Check := con_ok (ConsOK.cons ok_roster_right (ConsOK.nil)) L_roster_Check Ls_roster_Check (B := B_roster_Check) (BodiesOK.nil) Try.func49 rfl fun x y hf h => (run_roster_Check x).trans (eq_roster_Check x y hf h)
noncomputable def L_roster_Find : List (Nat × LD) := []
noncomputable def Ls_roster_Find : List (Nat × List (Nat × LD)) := [(95, [(2, ⟨⟨[(0, .asl 0 []), (1, .fn 96 [1]), (7, .hole .i), (8, .hole .i)], [(0, (.arr 64 (.st .entry)), .hole (.arr 64 (.st .entry))), (1, .i, .hole .i)], []⟩, [(.ret, ⟨[(4, .hole .i)], [(0, (.arr 64 (.st .entry)), .hole (.arr 64 (.st .entry))), (1, .i, .hole .i)], []⟩), (.exit 0, ⟨[], [(0, (.arr 64 (.st .entry)), .hole (.arr 64 (.st .entry))), (1, .i, .hole .i)], []⟩)], 10⟩)])]
noncomputable def B_roster_Find : Bodies := [bodyLine 96 Try.f96, bodyLine 95 Try.f95]
theorem run_roster_Find (x : denL [(.arr 64 (.st .entry)), .i]) : run [] L_roster_Find Ls_roster_Find B_roster_Find Try.f73 [(.arr 64 (.st .entry)), .i] [.i] x = g_roster_Find x := by kernel_rfl
theorem ok_roster_Find : ConOK Try.prog 73 c_roster_Find := con_ok (ConsOK.nil) L_roster_Find Ls_roster_Find (B := B_roster_Find) (BodiesOK.cons Try.func96 rfl (BodiesOK.cons Try.func95 rfl (BodiesOK.nil))) Try.func73 rfl fun x y hf h => (run_roster_Find x).trans (eq_roster_Find x y hf h)
noncomputable def L_ref09_Right : List (Nat × LD) := []
noncomputable def Ls_ref09_Right : List (Nat × List (Nat × LD)) := []
noncomputable def B_ref09_Right : Bodies := []
theorem run_ref09_Right (x : denL [(.st .entry)]) : run [] L_ref09_Right Ls_ref09_Right B_ref09_Right Try.f76 [(.st .entry)] [.bool] x = g_ref09_Right x := by kernel_rfl
theorem ok_ref09_Right : ConOK Try.prog 76 c_ref09_Right := con_ok (ConsOK.nil) L_ref09_Right Ls_ref09_Right (B := B_ref09_Right) (BodiesOK.nil) Try.func76 rfl fun x y hf h => (run_ref09_Right x).trans (eq_ref09_Right x y hf h)
noncomputable def L_ref09_Check : List (Nat × LD) := [(8, ⟨⟨[(1, .ptr 0 []), (3, .hole .i), (4, .hole .i)], [(0, (.arr 64 (.st .entry)), .hole (.arr 64 (.st .entry)))], []⟩, [(.ret, ⟨[(2, .hole .i)], [], []⟩), (.exit 2, ⟨[(1, .ptr 0 []), (3, .hole .i)], [(0, (.arr 64 (.st .entry)), .hole (.arr 64 (.st .entry)))], []⟩)], 10⟩), (2, ⟨⟨[(1, .ptr 0 []), (3, .hole .i)], [(0, (.arr 64 (.st .entry)), .hole (.arr 64 (.st .entry)))], []⟩, [(.ret, ⟨[(2, .hole .i)], [], []⟩), (.exit 0, ⟨[], [], []⟩)], 20⟩)]
noncomputable def Ls_ref09_Check : List (Nat × List (Nat × LD)) := []
noncomputable def B_ref09_Check : Bodies := []
theorem run_ref09_Check (x : denL [(.arr 64 (.st .entry))]) : run [(76, c_ref09_Right)] L_ref09_Check Ls_ref09_Check B_ref09_Check Try.f54 [(.arr 64 (.st .entry))] [.i] x = g_ref09_Check x := by kernel_rfl
theorem ok_ref09_Check : ConOK Try.prog 54 c_ref09_Check := con_ok (ConsOK.cons ok_ref09_Right (ConsOK.nil)) L_ref09_Check Ls_ref09_Check (B := B_ref09_Check) (BodiesOK.nil) Try.func54 rfl fun x y hf h => (run_ref09_Check x).trans (eq_ref09_Check x y hf h)
noncomputable def L_ref09_Find : List (Nat × LD) := [(2, ⟨⟨[(1, .hole .i), (2, .ptr 0 []), (5, .hole .i)], [(0, (.arr 64 (.st .entry)), .hole (.arr 64 (.st .entry)))], []⟩, [(.ret, ⟨[(4, .hole .i)], [], []⟩), (.exit 0, ⟨[], [], []⟩)], 10⟩)]
noncomputable def Ls_ref09_Find : List (Nat × List (Nat × LD)) := []
noncomputable def B_ref09_Find : Bodies := []
theorem run_ref09_Find (x : denL [(.arr 64 (.st .entry)), .i]) : run [] L_ref09_Find Ls_ref09_Find B_ref09_Find Try.f38 [(.arr 64 (.st .entry)), .i] [.i] x = g_ref09_Find x := by kernel_rfl
theorem ok_ref09_Find : ConOK Try.prog 38 c_ref09_Find := con_ok (ConsOK.nil) L_ref09_Find Ls_ref09_Find (B := B_ref09_Find) (BodiesOK.nil) Try.func38 rfl fun x y hf h => (run_ref09_Find x).trans (eq_ref09_Find x y hf h)
noncomputable def L_ref11_Start : List (Nat × LD) := [(3, ⟨⟨[(0, .ptr 0 []), (1, .ptr 1 []), (2, .hole .i)], [(0, (.st .tree), .hole (.st .tree)), (1, (.st .tree), .hole (.st .tree))], []⟩, [(.exit 0, ⟨[(0, .ptr 0 []), (1, .ptr 1 [])], [(0, (.st .tree), .hole (.st .tree)), (1, (.st .tree), .hole (.st .tree))], []⟩)], 10⟩)]
noncomputable def Ls_ref11_Start : List (Nat × List (Nat × LD)) := []
noncomputable def B_ref11_Start : Bodies := []
theorem run_ref11_Start (x : denL []) : run [] L_ref11_Start Ls_ref11_Start B_ref11_Start Try.f47 [] [(.st .tree)] x = g_ref11_Start x := by kernel_rfl
theorem ok_ref11_Start : ConOK Try.prog 47 c_ref11_Start := con_ok (ConsOK.nil) L_ref11_Start Ls_ref11_Start (B := B_ref11_Start) (BodiesOK.nil) Try.func47 rfl fun x y hf h => (run_ref11_Start x).trans (eq_ref11_Start x y hf h)
noncomputable def L_ref11_Check : List (Nat × LD) := [(4, ⟨⟨[(1, .ptr 0 []), (3, .hole .i)], [(0, (.st .tree), .hole (.st .tree))], []⟩, [(.ret, ⟨[(2, .hole .i)], [], []⟩), (.exit 0, ⟨[(1, .ptr 0 [])], [(0, (.st .tree), .hole (.st .tree))], []⟩)], 10⟩), (14, ⟨⟨[(1, .ptr 0 []), (4, .hole .i), (5, .hole .i)], [(0, (.st .tree), .hole (.st .tree))], []⟩, [(.ret, ⟨[(2, .hole .i)], [], []⟩), (.exit 4, ⟨[(1, .ptr 0 []), (4, .hole .i)], [(0, (.st .tree), .hole (.st .tree))], []⟩)], 10⟩), (9, ⟨⟨[(1, .ptr 0 []), (4, .hole .i)], [(0, (.st .tree), .hole (.st .tree))], []⟩, [(.ret, ⟨[(2, .hole .i)], [], []⟩), (.exit 2, ⟨[], [], []⟩)], 20⟩)]
noncomputable def Ls_ref11_Check : List (Nat × List (Nat × LD)) := []
noncomputable def B_ref11_Check : Bodies := []
theorem run_ref11_Check (x : denL [(.st .tree)]) : run [(53, c_ref10_Check), (54, c_ref09_Check)] L_ref11_Check Ls_ref11_Check B_ref11_Check Try.f29 [(.st .tree)] [.i] x = g_ref11_Check x := by kernel_rfl
theorem ok_ref11_Check : ConOK Try.prog 29 c_ref11_Check := con_ok (ConsOK.cons ok_ref10_Check (ConsOK.cons ok_ref09_Check (ConsOK.nil))) L_ref11_Check Ls_ref11_Check (B := B_ref11_Check) (BodiesOK.nil) Try.func29 rfl fun x y hf h => (run_ref11_Check x).trans (eq_ref11_Check x y hf h)
noncomputable def L_ref11_Of : List (Nat × LD) := []
noncomputable def Ls_ref11_Of : List (Nat × List (Nat × LD)) := []
noncomputable def B_ref11_Of : Bodies := []
theorem run_ref11_Of (x : denL [(.st .tree), .i]) : run [(70, c_ref01_Node), (39, c_ref10_LeafAt)] L_ref11_Of Ls_ref11_Of B_ref11_Of Try.f43 [(.st .tree), .i] [(.st .key), .i] x = g_ref11_Of x := by kernel_rfl
theorem ok_ref11_Of : ConOK Try.prog 43 c_ref11_Of := con_ok (ConsOK.cons ok_ref01_Node (ConsOK.cons ok_ref10_LeafAt (ConsOK.nil))) L_ref11_Of Ls_ref11_Of (B := B_ref11_Of) (BodiesOK.nil) Try.func43 rfl fun x y hf h => (run_ref11_Of x).trans (eq_ref11_Of x y hf h)
noncomputable def L_ref11_KeyOf : List (Nat × LD) := []
noncomputable def Ls_ref11_KeyOf : List (Nat × List (Nat × LD)) := []
noncomputable def B_ref11_KeyOf : Bodies := []
theorem run_ref11_KeyOf (x : denL [(.st .tree), .i]) : run [(29, c_ref11_Check), (43, c_ref11_Of)] L_ref11_KeyOf Ls_ref11_KeyOf B_ref11_KeyOf Try.f19 [(.st .tree), .i] [(.st .key), .i] x = g_ref11_KeyOf x := by kernel_rfl
theorem ok_ref11_KeyOf : ConOK Try.prog 19 c_ref11_KeyOf := con_ok (ConsOK.cons ok_ref11_Check (ConsOK.cons ok_ref11_Of (ConsOK.nil))) L_ref11_KeyOf Ls_ref11_KeyOf (B := B_ref11_KeyOf) (BodiesOK.nil) Try.func19 rfl fun x y hf h => (run_ref11_KeyOf x).trans (eq_ref11_KeyOf x y hf h)
noncomputable def L_ref11_PathOf : List (Nat × LD) := [(8, ⟨⟨[(2, .ptr 0 []), (4, .ptr 1 []), (6, .ptr 2 []), (7, .ptr 3 []), (9, .hole .i)], [(0, (.st .tree), .hole (.st .tree)), (1, (.arr 3 (.st .key)), .hole (.arr 3 (.st .key))), (2, (.arr 3 (.st .key)), .hole (.arr 3 (.st .key))), (3, (.arr 3 .i), .hole (.arr 3 .i))], []⟩, [(.exit 0, ⟨[(4, .ptr 1 []), (6, .ptr 2 [])], [(1, (.arr 3 (.st .key)), .hole (.arr 3 (.st .key))), (2, (.arr 3 (.st .key)), .hole (.arr 3 (.st .key)))], []⟩)], 10⟩)]
noncomputable def Ls_ref11_PathOf : List (Nat × List (Nat × LD)) := []
noncomputable def B_ref11_PathOf : Bodies := []
theorem run_ref11_PathOf (x : denL [(.st .tree), .i]) : run [(29, c_ref11_Check), (20, c_ref01_Path)] L_ref11_PathOf Ls_ref11_PathOf B_ref11_PathOf Try.f40 [(.st .tree), .i] [(.arr 3 (.st .key)), .i] x = g_ref11_PathOf x := by kernel_rfl
theorem ok_ref11_PathOf : ConOK Try.prog 40 c_ref11_PathOf := con_ok (ConsOK.cons ok_ref11_Check (ConsOK.cons ok_ref01_Path (ConsOK.nil))) L_ref11_PathOf Ls_ref11_PathOf (B := B_ref11_PathOf) (BodiesOK.nil) Try.func40 rfl fun x y hf h => (run_ref11_PathOf x).trans (eq_ref11_PathOf x y hf h)
noncomputable def L_ref11_Below : List (Nat × LD) := [(2, ⟨⟨[(1, .hole .i), (2, .ptr 0 []), (5, .hole .i)], [(0, (.arr 64 (.st .entry)), .hole (.arr 64 (.st .entry)))], []⟩, [(.ret, ⟨[(4, .hole .bool)], [], []⟩), (.exit 0, ⟨[], [], []⟩)], 10⟩)]
noncomputable def Ls_ref11_Below : List (Nat × List (Nat × LD)) := []
noncomputable def B_ref11_Below : Bodies := []
theorem run_ref11_Below (x : denL [(.arr 64 (.st .entry)), .i]) : run [(44, c_ref01_Leaf), (90, c_ref01_Below)] L_ref11_Below Ls_ref11_Below B_ref11_Below Try.f68 [(.arr 64 (.st .entry)), .i] [.bool] x = g_ref11_Below x := by kernel_rfl
theorem ok_ref11_Below : ConOK Try.prog 68 c_ref11_Below := con_ok (ConsOK.cons ok_ref01_Leaf (ConsOK.cons ok_ref01_Below (ConsOK.nil))) L_ref11_Below Ls_ref11_Below (B := B_ref11_Below) (BodiesOK.nil) Try.func68 rfl fun x y hf h => (run_ref11_Below x).trans (eq_ref11_Below x y hf h)
noncomputable def L_ref11_Stand : List (Nat × LD) := []
noncomputable def Ls_ref11_Stand : List (Nat × List (Nat × LD)) := []
noncomputable def B_ref11_Stand : Bodies := []
theorem run_ref11_Stand (x : denL [(.st .tree), .i]) : run [(29, c_ref11_Check), (38, c_ref09_Find), (39, c_ref10_LeafAt), (40, c_ref11_PathOf)] L_ref11_Stand Ls_ref11_Stand B_ref11_Stand Try.f15 [(.st .tree), .i] [(.st .member), .i] x = g_ref11_Stand x := by kernel_rfl
theorem ok_ref11_Stand : ConOK Try.prog 15 c_ref11_Stand := con_ok (ConsOK.cons ok_ref11_Check (ConsOK.cons ok_ref09_Find (ConsOK.cons ok_ref10_LeafAt (ConsOK.cons ok_ref11_PathOf (ConsOK.nil))))) L_ref11_Stand Ls_ref11_Stand (B := B_ref11_Stand) (BodiesOK.nil) Try.func15 rfl fun x y hf h => (run_ref11_Stand x).trans (eq_ref11_Stand x y hf h)
noncomputable def L_keytree_Check : List (Nat × LD) := [(7, ⟨⟨[(1, .ptr 0 []), (3, .mp 1), (38, .hole (.arr 21 (.st .key))), (39, .hole .i)], [(0, (.st .tree), .hole (.st .tree))], [(1, .i, .i)]⟩, [(.ret, ⟨[(2, .hole .i)], [], []⟩), (.exit 0, ⟨[(1, .ptr 0 []), (3, .mp 1)], [(0, (.st .tree), .hole (.st .tree))], [(1, .i, .i)]⟩)], 11⟩), (14, ⟨⟨[(1, .ptr 0 []), (3, .mp 1), (61, .hole (.arr 64 (.st .entry))), (62, .hole .i)], [(0, (.st .tree), .hole (.st .tree))], [(1, .i, .i)]⟩, [(.ret, ⟨[(2, .hole .i)], [], []⟩), (.exit 2, ⟨[], [], []⟩)], 11⟩)]
noncomputable def Ls_keytree_Check : List (Nat × List (Nat × LD)) := []
noncomputable def B_keytree_Check : Bodies := []
theorem run_keytree_Check (x : denL [(.st .tree)]) : run [(48, c_ratchet_Check), (49, c_roster_Check)] L_keytree_Check Ls_keytree_Check B_keytree_Check Try.f26 [(.st .tree)] [.i] x = g_keytree_Check x := by kernel_rfl
theorem ok_keytree_Check : ConOK Try.prog 26 c_keytree_Check := con_ok (ConsOK.cons ok_ratchet_Check (ConsOK.cons ok_roster_Check (ConsOK.nil))) L_keytree_Check Ls_keytree_Check (B := B_keytree_Check) (BodiesOK.nil) Try.func26 rfl fun x y hf h => (run_keytree_Check x).trans (eq_keytree_Check x y hf h)
noncomputable def L_keytree_PathOf : List (Nat × LD) := [(9, ⟨⟨[(2, .ptr 0 []), (4, .ptr 1 []), (9, .ptr 3 []), (26, .hole (.arr 3 .i)), (27, .hole .i)], [(0, (.st .tree), .hole (.st .tree)), (1, (.arr 3 (.st .key)), .hole (.arr 3 (.st .key))), (3, (.arr 3 (.st .key)), .hole (.arr 3 (.st .key)))], []⟩, [(.exit 0, ⟨[(4, .ptr 1 []), (9, .ptr 3 [])], [(1, (.arr 3 (.st .key)), .hole (.arr 3 (.st .key))), (3, (.arr 3 (.st .key)), .hole (.arr 3 (.st .key)))], []⟩)], 10⟩)]
noncomputable def Ls_keytree_PathOf : List (Nat × List (Nat × LD)) := []
noncomputable def B_keytree_PathOf : Bodies := []
theorem run_keytree_PathOf (x : denL [(.st .tree), .i]) : run [(26, c_keytree_Check), (75, c_shape_Path)] L_keytree_PathOf Ls_keytree_PathOf B_keytree_PathOf Try.f51 [(.st .tree), .i] [(.arr 3 (.st .key)), .i] x = g_keytree_PathOf x := by kernel_rfl
theorem ok_keytree_PathOf : ConOK Try.prog 51 c_keytree_PathOf := con_ok (ConsOK.cons ok_keytree_Check (ConsOK.cons ok_shape_Path (ConsOK.nil))) L_keytree_PathOf Ls_keytree_PathOf (B := B_keytree_PathOf) (BodiesOK.nil) Try.func51 rfl fun x y hf h => (run_keytree_PathOf x).trans (eq_keytree_PathOf x y hf h)
noncomputable def L_keytree_Card : List (Nat × LD) := []
noncomputable def Ls_keytree_Card : List (Nat × List (Nat × LD)) := []
noncomputable def B_keytree_Card : Bodies := []
theorem run_keytree_Card (x : denL [(.st .tree), .i]) : run [(26, c_keytree_Check), (73, c_roster_Find), (74, c_ratchet_LeafAt)] L_keytree_Card Ls_keytree_Card B_keytree_Card Try.f50 [(.st .tree), .i] [(.st .card), .i] x = g_keytree_Card x := by kernel_rfl
theorem ok_keytree_Card : ConOK Try.prog 50 c_keytree_Card := con_ok (ConsOK.cons ok_keytree_Check (ConsOK.cons ok_roster_Find (ConsOK.cons ok_ratchet_LeafAt (ConsOK.nil)))) L_keytree_Card Ls_keytree_Card (B := B_keytree_Card) (BodiesOK.nil) Try.func50 rfl fun x y hf h => (run_keytree_Card x).trans (eq_keytree_Card x y hf h)
noncomputable def L_keytree_Stand : List (Nat × LD) := []
noncomputable def Ls_keytree_Stand : List (Nat × List (Nat × LD)) := []
noncomputable def B_keytree_Stand : Bodies := []
theorem run_keytree_Stand (x : denL [(.st .tree), .i]) : run [(50, c_keytree_Card), (51, c_keytree_PathOf)] L_keytree_Stand Ls_keytree_Stand B_keytree_Stand Try.f27 [(.st .tree), .i] [(.st .member), .i] x = g_keytree_Stand x := by kernel_rfl
theorem ok_keytree_Stand : ConOK Try.prog 27 c_keytree_Stand := con_ok (ConsOK.cons ok_keytree_Card (ConsOK.cons ok_keytree_PathOf (ConsOK.nil))) L_keytree_Stand Ls_keytree_Stand (B := B_keytree_Stand) (BodiesOK.nil) Try.func27 rfl fun x y hf h => (run_keytree_Stand x).trans (eq_keytree_Stand x y hf h)
noncomputable def L_ref08_Places : List (Nat × LD) := [(3, ⟨⟨[(0, .hole (.int .u64)), (2, .ptr 0 []), (3, .ptr 1 []), (4, .hole .i)], [(0, (.arr 64 .bool), .hole (.arr 64 .bool)), (1, (.arr 64 .bool), .hole (.arr 64 .bool))], []⟩, [(.exit 0, ⟨[(2, .ptr 0 []), (3, .ptr 1 [])], [(0, (.arr 64 .bool), .hole (.arr 64 .bool)), (1, (.arr 64 .bool), .hole (.arr 64 .bool))], []⟩)], 10⟩)]
noncomputable def Ls_ref08_Places : List (Nat × List (Nat × LD)) := []
noncomputable def B_ref08_Places : Bodies := []
theorem run_ref08_Places (x : denL [(.int .u64)]) : run [] L_ref08_Places Ls_ref08_Places B_ref08_Places Try.f105 [(.int .u64)] [(.arr 64 .bool)] x = g_ref08_Places x := by kernel_rfl
theorem ok_ref08_Places : ConOK Try.prog 105 c_ref08_Places := con_ok (ConsOK.nil) L_ref08_Places Ls_ref08_Places (B := B_ref08_Places) (BodiesOK.nil) Try.func105 rfl fun x y hf h => (run_ref08_Places x).trans (eq_ref08_Places x y hf h)
noncomputable def L_ref08_Word : List (Nat × LD) := [(3, ⟨⟨[(1, .ptr 0 []), (3, .hole (.int .u64)), (4, .hole .i)], [(0, (.arr 64 .bool), .hole (.arr 64 .bool))], []⟩, [(.exit 0, ⟨[(3, .hole (.int .u64))], [], []⟩)], 10⟩)]
noncomputable def Ls_ref08_Word : List (Nat × List (Nat × LD)) := []
noncomputable def B_ref08_Word : Bodies := []
theorem run_ref08_Word (x : denL [(.arr 64 .bool)]) : run [] L_ref08_Word Ls_ref08_Word B_ref08_Word Try.f101 [(.arr 64 .bool)] [(.int .u64)] x = g_ref08_Word x := by kernel_rfl
theorem ok_ref08_Word : ConOK Try.prog 101 c_ref08_Word := con_ok (ConsOK.nil) L_ref08_Word Ls_ref08_Word (B := B_ref08_Word) (BodiesOK.nil) Try.func101 rfl fun x y hf h => (run_ref08_Word x).trans (eq_ref08_Word x y hf h)
noncomputable def L_ref08_List : List (Nat × LD) := [(4, ⟨⟨[(3, .ptr 0 []), (4, .row .i), (5, .hole .i)], [(0, (.arr 64 .bool), .hole (.arr 64 .bool))], []⟩, [(.exit 0, ⟨[(4, .row .i)], [], []⟩)], 13⟩)]
noncomputable def Ls_ref08_List : List (Nat × List (Nat × LD)) := []
noncomputable def B_ref08_List : Bodies := []
theorem run_ref08_List (x : denL [(.int .u64)]) : run [(105, c_ref08_Places)] L_ref08_List Ls_ref08_List B_ref08_List Try.f100 [(.int .u64)] [(.list .i)] x = g_ref08_List x := by kernel_rfl
theorem ok_ref08_List : ConOK Try.prog 100 c_ref08_List := con_ok (ConsOK.cons ok_ref08_Places (ConsOK.nil)) L_ref08_List Ls_ref08_List (B := B_ref08_List) (BodiesOK.nil) Try.func100 rfl fun x y hf h => (run_ref08_List x).trans (eq_ref08_List x y hf h)
noncomputable def L_ref08_Count : List (Nat × LD) := []
noncomputable def Ls_ref08_Count : List (Nat × List (Nat × LD)) := []
noncomputable def B_ref08_Count : Bodies := []
theorem run_ref08_Count (x : denL [(.int .u64)]) : run [(100, c_ref08_List)] L_ref08_Count Ls_ref08_Count B_ref08_Count Try.f87 [(.int .u64)] [.i] x = g_ref08_Count x := by kernel_rfl
theorem ok_ref08_Count : ConOK Try.prog 87 c_ref08_Count := con_ok (ConsOK.cons ok_ref08_List (ConsOK.nil)) L_ref08_Count Ls_ref08_Count (B := B_ref08_Count) (BodiesOK.nil) Try.func87 rfl fun x y hf h => (run_ref08_Count x).trans (eq_ref08_Count x y hf h)
noncomputable def L_ref09_Taken : List (Nat × LD) := [(3, ⟨⟨[(1, .ptr 0 []), (3, .ptr 1 []), (4, .hole .i)], [(0, (.arr 64 (.st .entry)), .hole (.arr 64 (.st .entry))), (1, (.arr 64 .bool), .hole (.arr 64 .bool))], []⟩, [(.exit 0, ⟨[(3, .ptr 1 [])], [(1, (.arr 64 .bool), .hole (.arr 64 .bool))], []⟩)], 10⟩)]
noncomputable def Ls_ref09_Taken : List (Nat × List (Nat × LD)) := []
noncomputable def B_ref09_Taken : Bodies := []
theorem run_ref09_Taken (x : denL [(.arr 64 (.st .entry))]) : run [(101, c_ref08_Word)] L_ref09_Taken Ls_ref09_Taken B_ref09_Taken Try.f88 [(.arr 64 (.st .entry))] [(.int .u64)] x = g_ref09_Taken x := by kernel_rfl
theorem ok_ref09_Taken : ConOK Try.prog 88 c_ref09_Taken := con_ok (ConsOK.cons ok_ref08_Word (ConsOK.nil)) L_ref09_Taken Ls_ref09_Taken (B := B_ref09_Taken) (BodiesOK.nil) Try.func88 rfl fun x y hf h => (run_ref09_Taken x).trans (eq_ref09_Taken x y hf h)
noncomputable def L_ref09_person : List (Nat × LD) := []
noncomputable def Ls_ref09_person : List (Nat × List (Nat × LD)) := []
noncomputable def B_ref09_person : Bodies := []
theorem run_ref09_person (x : denL [(.arr 64 (.st .entry)), (.arr 256 .bool), .i, .bool]) : run [(38, c_ref09_Find)] L_ref09_person Ls_ref09_person B_ref09_person Try.f86 [(.arr 64 (.st .entry)), (.arr 256 .bool), .i, .bool] [.i] x = g_ref09_person x := by kernel_rfl
theorem ok_ref09_person : ConOK Try.prog 86 c_ref09_person := con_ok (ConsOK.cons ok_ref09_Find (ConsOK.nil)) L_ref09_person Ls_ref09_person (B := B_ref09_person) (BodiesOK.nil) Try.func86 rfl fun x y hf h => (run_ref09_person x).trans (eq_ref09_person x y hf h)
noncomputable def L_ref09_Fits : List (Nat × LD) := [(5, ⟨⟨[(2, .ptr 0 []), (3, .ptr 1 []), (5, .ptr 2 []), (16, .hole (.list .i)), (17, .hole .i), (18, .hole .i)], [(0, (.arr 64 (.st .entry)), .hole (.arr 64 (.st .entry))), (1, (.st .batch), .hole (.st .batch)), (2, (.arr 256 .bool), .hole (.arr 256 .bool))], []⟩, [(.ret, ⟨[(4, .hole .i)], [], []⟩), (.exit 0, ⟨[(2, .ptr 0 []), (3, .ptr 1 []), (5, .ptr 2 [])], [(0, (.arr 64 (.st .entry)), .hole (.arr 64 (.st .entry))), (1, (.st .batch), .hole (.st .batch)), (2, (.arr 256 .bool), .hole (.arr 256 .bool))], []⟩)], 10⟩), (13, ⟨⟨[(2, .ptr 0 []), (3, .ptr 1 []), (5, .ptr 2 []), (33, .hole (.list .i)), (34, .hole .i), (35, .hole .i)], [(0, (.arr 64 (.st .entry)), .hole (.arr 64 (.st .entry))), (1, (.st .batch), .hole (.st .batch)), (2, (.arr 256 .bool), .hole (.arr 256 .bool))], []⟩, [(.ret, ⟨[(4, .hole .i)], [], []⟩), (.exit 2, ⟨[(2, .ptr 0 []), (3, .ptr 1 [])], [(0, (.arr 64 (.st .entry)), .hole (.arr 64 (.st .entry))), (1, (.st .batch), .hole (.st .batch))], []⟩)], 10⟩)]
noncomputable def Ls_ref09_Fits : List (Nat × List (Nat × LD)) := []
noncomputable def B_ref09_Fits : Bodies := []
theorem run_ref09_Fits (x : denL [(.arr 64 (.st .entry)), (.st .batch)]) : run [(54, c_ref09_Check), (86, c_ref09_person), (88, c_ref09_Taken), (87, c_ref08_Count)] L_ref09_Fits Ls_ref09_Fits B_ref09_Fits Try.f62 [(.arr 64 (.st .entry)), (.st .batch)] [.i] x = g_ref09_Fits x := by kernel_rfl
theorem ok_ref09_Fits : ConOK Try.prog 62 c_ref09_Fits := con_ok (ConsOK.cons ok_ref09_Check (ConsOK.cons ok_ref09_person (ConsOK.cons ok_ref09_Taken (ConsOK.cons ok_ref08_Count (ConsOK.nil))))) L_ref09_Fits Ls_ref09_Fits (B := B_ref09_Fits) (BodiesOK.nil) Try.func62 rfl fun x y hf h => (run_ref09_Fits x).trans (eq_ref09_Fits x y hf h)
noncomputable def L_ref09_Move : List (Nat × LD) := [(10, ⟨⟨[(2, .hole .i), (3, .hole .i), (4, .ptr 0 []), (5, .ptr 1 []), (8, .ptr 2 []), (13, .hole .i), (14, .hole .i)], [(0, (.arr 64 (.st .entry)), .hole (.arr 64 (.st .entry))), (1, (.st .batch), .hole (.st .batch)), (2, (.arr 64 (.st .entry)), .hole (.arr 64 (.st .entry)))], []⟩, [(.ret, ⟨[(8, .ptr 2 []), (9, .nils), (10, .nils), (11, .hole .i)], [(2, (.arr 64 (.st .entry)), .hole (.arr 64 (.st .entry)))], []⟩), (.exit 0, ⟨[(2, .hole .i), (3, .hole .i), (4, .ptr 0 []), (5, .ptr 1 []), (8, .ptr 2 [])], [(0, (.arr 64 (.st .entry)), .hole (.arr 64 (.st .entry))), (1, (.st .batch), .hole (.st .batch)), (2, (.arr 64 (.st .entry)), .hole (.arr 64 (.st .entry)))], []⟩)], 10⟩), (16, ⟨⟨[(2, .hole .i), (3, .hole .i), (4, .ptr 0 []), (5, .ptr 1 []), (8, .ptr 2 []), (15, .row (.st .seat)), (16, .nils), (79, .hole (.list .i)), (80, .hole .i), (81, .hole .i)], [(0, (.arr 64 (.st .entry)), .hole (.arr 64 (.st .entry))), (1, (.st .batch), .hole (.st .batch)), (2, (.arr 64 (.st .entry)), .hole (.arr 64 (.st .entry)))], []⟩, [(.exit 2, ⟨[(2, .hole .i), (3, .hole .i), (4, .ptr 0 []), (5, .ptr 1 []), (8, .ptr 2 []), (15, .row (.st .seat)), (16, .nils)], [(0, (.arr 64 (.st .entry)), .hole (.arr 64 (.st .entry))), (1, (.st .batch), .hole (.st .batch)), (2, (.arr 64 (.st .entry)), .hole (.arr 64 (.st .entry)))], []⟩)], 13⟩), (26, ⟨⟨[(2, .hole .i), (3, .hole .i), (4, .ptr 0 []), (8, .ptr 2 []), (15, .row (.st .seat)), (16, .row (.st .seat)), (20, .hole .i), (21, .hole .i), (22, .hole .i), (99, .hole (.list .i)), (100, .hole .i), (101, .hole .i)], [(0, (.arr 64 (.st .entry)), .hole (.arr 64 (.st .entry))), (2, (.arr 64 (.st .entry)), .hole (.arr 64 (.st .entry)))], []⟩, [(.exit 6, ⟨[(2, .hole .i), (3, .hole .i), (4, .ptr 0 []), (8, .ptr 2 []), (15, .row (.st .seat)), (16, .row (.st .seat)), (20, .hole .i), (21, .hole .i), (22, .hole .i), (99, .hole (.list .i)), (100, .hole .i), (101, .hole .i)], [(0, (.arr 64 (.st .entry)), .hole (.arr 64 (.st .entry))), (2, (.arr 64 (.st .entry)), .hole (.arr 64 (.st .entry)))], []⟩)], 12⟩), (23, ⟨⟨[(2, .hole .i), (3, .hole .i), (4, .ptr 0 []), (8, .ptr 2 []), (15, .row (.st .seat)), (16, .row (.st .seat)), (99, .hole (.list .i)), (100, .hole .i), (101, .hole .i)], [(0, (.arr 64 (.st .entry)), .hole (.arr 64 (.st .entry))), (2, (.arr 64 (.st .entry)), .hole (.arr 64 (.st .entry)))], []⟩, [(.exit 4, ⟨[(4, .ptr 0 []), (8, .ptr 2 []), (15, .row (.st .seat)), (16, .row (.st .seat))], [(0, (.arr 64 (.st .entry)), .hole (.arr 64 (.st .entry))), (2, (.arr 64 (.st .entry)), .hole (.arr 64 (.st .entry)))], []⟩)], 24⟩)]
noncomputable def Ls_ref09_Move : List (Nat × List (Nat × LD)) := []
noncomputable def B_ref09_Move : Bodies := []
theorem run_ref09_Move (x : denL [(.arr 64 (.st .entry)), (.st .batch), .i, .i]) : run [(62, c_ref09_Fits), (38, c_ref09_Find)] L_ref09_Move Ls_ref09_Move B_ref09_Move Try.f65 [(.arr 64 (.st .entry)), (.st .batch), .i, .i] [(.arr 64 (.st .entry)), (.list (.st .seat)), (.list (.st .seat)), .i] x = g_ref09_Move x := by kernel_rfl
theorem ok_ref09_Move : ConOK Try.prog 65 c_ref09_Move := con_ok (ConsOK.cons ok_ref09_Fits (ConsOK.cons ok_ref09_Find (ConsOK.nil))) L_ref09_Move Ls_ref09_Move (B := B_ref09_Move) (BodiesOK.nil) Try.func65 rfl fun x y hf h => (run_ref09_Move x).trans (eq_ref09_Move x y hf h)
noncomputable def L_ref11_Replaced : List (Nat × LD) := [(7, ⟨⟨[(0, .hole (.list (.st .seat))), (3, .hole (.int .u32)), (4, .hole (.int .u32)), (5, .hole .i), (12, .hole (.list (.st .seat))), (13, .hole .i), (14, .hole .i)], [], []⟩, [(.exit 2, ⟨[(0, .hole (.list (.st .seat))), (3, .hole (.int .u32)), (4, .hole (.int .u32)), (5, .hole .i)], [], []⟩)], 11⟩), (4, ⟨⟨[(0, .hole (.list (.st .seat))), (3, .hole (.int .u32)), (4, .hole (.int .u32)), (5, .hole .i)], [], []⟩, [(.exit 0, ⟨[(3, .hole (.int .u32))], [], []⟩)], 22⟩)]
noncomputable def Ls_ref11_Replaced : List (Nat × List (Nat × LD)) := []
noncomputable def B_ref11_Replaced : Bodies := []
theorem run_ref11_Replaced (x : denL [(.list (.st .seat))]) : run [(44, c_ref01_Leaf), (90, c_ref01_Below)] L_ref11_Replaced Ls_ref11_Replaced B_ref11_Replaced Try.f64 [(.list (.st .seat))] [(.int .u32)] x = g_ref11_Replaced x := by kernel_rfl
theorem ok_ref11_Replaced : ConOK Try.prog 64 c_ref11_Replaced := con_ok (ConsOK.cons ok_ref01_Leaf (ConsOK.cons ok_ref01_Below (ConsOK.nil))) L_ref11_Replaced Ls_ref11_Replaced (B := B_ref11_Replaced) (BodiesOK.nil) Try.func64 rfl fun x y hf h => (run_ref11_Replaced x).trans (eq_ref11_Replaced x y hf h)
noncomputable def L_ref11_Next : List (Nat × LD) := [(10, ⟨⟨[(2, .ptr 0 []), (3, .ptr 1 []), (4, .ptr 2 []), (9, .row (.st .seat)), (34, .hole (.list .i)), (35, .hole .i), (36, .hole .i)], [(0, (.st .tree), .hole (.st .tree)), (1, (.st .batch), .hole (.st .batch)), (2, (.st .tree), .hole (.st .tree))], []⟩, [(.exit 0, ⟨[(2, .ptr 0 []), (3, .ptr 1 []), (4, .ptr 2 []), (9, .row (.st .seat))], [(0, (.st .tree), .hole (.st .tree)), (1, (.st .batch), .hole (.st .batch)), (2, (.st .tree), .hole (.st .tree))], []⟩)], 13⟩)]
noncomputable def Ls_ref11_Next : List (Nat × List (Nat × LD)) := []
noncomputable def B_ref11_Next : Bodies := []
theorem run_ref11_Next (x : denL [(.st .tree), (.st .batch)]) : run [(29, c_ref11_Check), (62, c_ref09_Fits), (38, c_ref09_Find), (64, c_ref11_Replaced), (63, c_ref10_Turn), (65, c_ref09_Move)] L_ref11_Next Ls_ref11_Next B_ref11_Next Try.f41 [(.st .tree), (.st .batch)] [(.st .tree), (.list (.st .seat)), (.list (.st .seat)), .i] x = g_ref11_Next x := by kernel_rfl
theorem ok_ref11_Next : ConOK Try.prog 41 c_ref11_Next := con_ok (ConsOK.cons ok_ref11_Check (ConsOK.cons ok_ref09_Fits (ConsOK.cons ok_ref09_Find (ConsOK.cons ok_ref11_Replaced (ConsOK.cons ok_ref10_Turn (ConsOK.cons ok_ref09_Move (ConsOK.nil))))))) L_ref11_Next Ls_ref11_Next (B := B_ref11_Next) (BodiesOK.nil) Try.func41 rfl fun x y hf h => (run_ref11_Next x).trans (eq_ref11_Next x y hf h)
noncomputable def L_ref12_item : List (Nat × LD) := []
noncomputable def Ls_ref12_item : List (Nat × List (Nat × LD)) := []
noncomputable def B_ref12_item : Bodies := []
theorem run_ref12_item (x : denL [(.st .tree), .i, .i]) : run [(43, c_ref11_Of)] L_ref12_item Ls_ref12_item B_ref12_item Try.f69 [(.st .tree), .i, .i] [(.st .item)] x = g_ref12_item x := by kernel_rfl
theorem ok_ref12_item : ConOK Try.prog 69 c_ref12_item := con_ok (ConsOK.cons ok_ref11_Of (ConsOK.nil)) L_ref12_item Ls_ref12_item (B := B_ref12_item) (BodiesOK.nil) Try.func69 rfl fun x y hf h => (run_ref12_item x).trans (eq_ref12_item x y hf h)
noncomputable def L_ref12_Items : List (Nat × LD) := [(7, ⟨⟨[(2, .hole (.list (.st .seat))), (3, .ptr 0 []), (7, .hole (.int .u32)), (8, .row (.st .item)), (9, .hole .i), (10, .hole .i)], [(0, (.st .tree), .hole (.st .tree))], []⟩, [(.exit 2, ⟨[(2, .hole (.list (.st .seat))), (3, .ptr 0 []), (7, .hole (.int .u32)), (8, .row (.st .item)), (9, .hole .i)], [(0, (.st .tree), .hole (.st .tree))], []⟩)], 13⟩), (4, ⟨⟨[(2, .hole (.list (.st .seat))), (3, .ptr 0 []), (7, .hole (.int .u32)), (8, .row (.st .item)), (9, .hole .i)], [(0, (.st .tree), .hole (.st .tree))], []⟩, [(.exit 0, ⟨[(2, .hole (.list (.st .seat))), (3, .ptr 0 []), (7, .hole (.int .u32)), (8, .row (.st .item))], [(0, (.st .tree), .hole (.st .tree))], []⟩)], 25⟩), (17, ⟨⟨[(3, .ptr 0 []), (7, .hole (.int .u32)), (8, .row (.st .item)), (13, .ptr 27 []), (14, .ptr 28 []), (16, .hole .i), (46, .hole (.list (.st .seat))), (47, .hole .i), (48, .hole .i)], [(0, (.st .tree), .hole (.st .tree)), (27, (.st .seat), .hole (.st .seat)), (28, (.arr 3 .i), .hole (.arr 3 .i))], []⟩, [(.exit 6, ⟨[(3, .ptr 0 []), (7, .hole (.int .u32)), (8, .row (.st .item)), (46, .hole (.list (.st .seat))), (47, .hole .i), (48, .hole .i)], [(0, (.st .tree), .hole (.st .tree))], []⟩)], 13⟩), (13, ⟨⟨[(3, .ptr 0 []), (7, .hole (.int .u32)), (8, .row (.st .item)), (46, .hole (.list (.st .seat))), (47, .hole .i), (48, .hole .i)], [(0, (.st .tree), .hole (.st .tree))], []⟩, [(.exit 4, ⟨[(8, .row (.st .item))], [], []⟩)], 27⟩)]
noncomputable def Ls_ref12_Items : List (Nat × List (Nat × LD)) := []
noncomputable def B_ref12_Items : Bodies := []
theorem run_ref12_Items (x : denL [(.st .tree), (.list (.st .seat)), (.list (.st .seat))]) : run [(64, c_ref11_Replaced), (66, c_ref01_In), (67, c_ref01_Child), (68, c_ref11_Below), (69, c_ref12_item), (20, c_ref01_Path), (44, c_ref01_Leaf)] L_ref12_Items Ls_ref12_Items B_ref12_Items Try.f42 [(.st .tree), (.list (.st .seat)), (.list (.st .seat))] [(.list (.st .item))] x = g_ref12_Items x := by kernel_rfl
theorem ok_ref12_Items : ConOK Try.prog 42 c_ref12_Items := con_ok (ConsOK.cons ok_ref11_Replaced (ConsOK.cons ok_ref01_In (ConsOK.cons ok_ref01_Child (ConsOK.cons ok_ref11_Below (ConsOK.cons ok_ref12_item (ConsOK.cons ok_ref01_Path (ConsOK.cons ok_ref01_Leaf (ConsOK.nil)))))))) L_ref12_Items Ls_ref12_Items (B := B_ref12_Items) (BodiesOK.nil) Try.func42 rfl fun x y hf h => (run_ref12_Items x).trans (eq_ref12_Items x y hf h)
noncomputable def L_ref12_Next : List (Nat × LD) := []
noncomputable def Ls_ref12_Next : List (Nat × List (Nat × LD)) := []
noncomputable def B_ref12_Next : Bodies := []
theorem run_ref12_Next (x : denL [(.st .tree), (.st .batch)]) : run [(41, c_ref11_Next), (42, c_ref12_Items)] L_ref12_Next Ls_ref12_Next B_ref12_Next Try.f18 [(.st .tree), (.st .batch)] [(.st .tree), (.st .rekey), .i] x = g_ref12_Next x := by kernel_rfl
theorem ok_ref12_Next : ConOK Try.prog 18 c_ref12_Next := con_ok (ConsOK.cons ok_ref11_Next (ConsOK.cons ok_ref12_Items (ConsOK.nil))) L_ref12_Next Ls_ref12_Next (B := B_ref12_Next) (BodiesOK.nil) Try.func18 rfl fun x y hf h => (run_ref12_Next x).trans (eq_ref12_Next x y hf h)
noncomputable def L_member_between : List (Nat × LD) := []
noncomputable def Ls_member_between : List (Nat × List (Nat × LD)) := []
noncomputable def B_member_between : Bodies := []
theorem run_member_between (x : denL [.i, .i, .i]) : run [] L_member_between Ls_member_between B_member_between Try.f91 [.i, .i, .i] [.bool] x = g_member_between x := by kernel_rfl
theorem ok_member_between : ConOK Try.prog 91 c_member_between := con_ok (ConsOK.nil) L_member_between Ls_member_between (B := B_member_between) (BodiesOK.nil) Try.func91 rfl fun x y hf h => (run_member_between x).trans (eq_member_between x y hf h)
noncomputable def L_member_card : List (Nat × LD) := []
noncomputable def Ls_member_card : List (Nat × List (Nat × LD)) := []
noncomputable def B_member_card : Bodies := []
theorem run_member_card (x : denL [(.st .card)]) : run [(91, c_member_between), (52, c_key_Good)] L_member_card Ls_member_card B_member_card Try.f92 [(.st .card)] [.bool] x = g_member_card x := by kernel_rfl
theorem ok_member_card : ConOK Try.prog 92 c_member_card := con_ok (ConsOK.cons ok_member_between (ConsOK.cons ok_key_Good (ConsOK.nil))) L_member_card Ls_member_card (B := B_member_card) (BodiesOK.nil) Try.func92 rfl fun x y hf h => (run_member_card x).trans (eq_member_card x y hf h)
noncomputable def L_member_Kind : List (Nat × LD) := []
noncomputable def Ls_member_Kind : List (Nat × List (Nat × LD)) := [(102, [(2, ⟨⟨[(0, .asl 0 [.fld 4]), (1, .fn 94 []), (7, .hole .i), (8, .hole .i)], [(0, (.st .member), .hole (.st .member))], []⟩, [(.ret, ⟨[(4, .hole .i)], [(0, (.st .member), .hole (.st .member))], []⟩), (.exit 0, ⟨[], [(0, (.st .member), .hole (.st .member))], []⟩)], 10⟩)])]
noncomputable def B_member_Kind : Bodies := [bodyLine 93 Try.f93, bodyLine 102 Try.f102, bodyLine 94 Try.f94]
theorem run_member_Kind (x : denL [(.st .member)]) : run [(91, c_member_between), (92, c_member_card), (52, c_key_Good)] L_member_Kind Ls_member_Kind B_member_Kind Try.f71 [(.st .member)] [.i] x = g_member_Kind x := by kernel_rfl
theorem ok_member_Kind : ConOK Try.prog 71 c_member_Kind := con_ok (ConsOK.cons ok_member_between (ConsOK.cons ok_member_card (ConsOK.cons ok_key_Good (ConsOK.nil)))) L_member_Kind Ls_member_Kind (B := B_member_Kind) (BodiesOK.cons Try.func93 rfl (BodiesOK.cons Try.func102 rfl (BodiesOK.cons Try.func94 rfl (BodiesOK.nil)))) Try.func71 rfl fun x y hf h => (run_member_Kind x).trans (eq_member_Kind x y hf h)
noncomputable def L_ref15_GoodCard : List (Nat × LD) := []
noncomputable def Ls_ref15_GoodCard : List (Nat × List (Nat × LD)) := []
noncomputable def B_ref15_GoodCard : Bodies := []
theorem run_ref15_GoodCard (x : denL [(.st .card)]) : run [(16, c_ref02_Good)] L_ref15_GoodCard Ls_ref15_GoodCard B_ref15_GoodCard Try.f37 [(.st .card)] [.bool] x = g_ref15_GoodCard x := by kernel_rfl
theorem ok_ref15_GoodCard : ConOK Try.prog 37 c_ref15_GoodCard := con_ok (ConsOK.cons ok_ref02_Good (ConsOK.nil)) L_ref15_GoodCard Ls_ref15_GoodCard (B := B_ref15_GoodCard) (BodiesOK.nil) Try.func37 rfl fun x y hf h => (run_ref15_GoodCard x).trans (eq_ref15_GoodCard x y hf h)
noncomputable def L_ref15_Kind : List (Nat × LD) := [(14, ⟨⟨[(1, .ptr 0 []), (3, .hole .i)], [(0, (.st .member), .hole (.st .member))], []⟩, [(.ret, ⟨[(2, .hole .i)], [], []⟩), (.exit 0, ⟨[], [], []⟩)], 10⟩)]
noncomputable def Ls_ref15_Kind : List (Nat × List (Nat × LD)) := []
noncomputable def B_ref15_Kind : Bodies := []
theorem run_ref15_Kind (x : denL [(.st .member)]) : run [(37, c_ref15_GoodCard), (16, c_ref02_Good)] L_ref15_Kind Ls_ref15_Kind B_ref15_Kind Try.f14 [(.st .member)] [.i] x = g_ref15_Kind x := by kernel_rfl
theorem ok_ref15_Kind : ConOK Try.prog 14 c_ref15_Kind := con_ok (ConsOK.cons ok_ref15_GoodCard (ConsOK.cons ok_ref02_Good (ConsOK.nil))) L_ref15_Kind Ls_ref15_Kind (B := B_ref15_Kind) (BodiesOK.nil) Try.func14 rfl fun x y hf h => (run_ref15_Kind x).trans (eq_ref15_Kind x y hf h)
noncomputable def L_ref15_Calm : List (Nat × LD) := []
noncomputable def Ls_ref15_Calm : List (Nat × List (Nat × LD)) := []
noncomputable def B_ref15_Calm : Bodies := []
theorem run_ref15_Calm (x : denL [(.st .member)]) : run [] L_ref15_Calm Ls_ref15_Calm B_ref15_Calm Try.f36 [(.st .member)] [(.st .member)] x = g_ref15_Calm x := by kernel_rfl
theorem ok_ref15_Calm : ConOK Try.prog 36 c_ref15_Calm := con_ok (ConsOK.nil) L_ref15_Calm Ls_ref15_Calm (B := B_ref15_Calm) (BodiesOK.nil) Try.func36 rfl fun x y hf h => (run_ref15_Calm x).trans (eq_ref15_Calm x y hf h)
noncomputable def L_ref14_person : List (Nat × LD) := []
noncomputable def Ls_ref14_person : List (Nat × List (Nat × LD)) := []
noncomputable def B_ref14_person : Bodies := []
theorem run_ref14_person (x : denL [.i]) : run [] L_ref14_person Ls_ref14_person B_ref14_person Try.f59 [.i] [.bool] x = g_ref14_person x := by kernel_rfl
theorem ok_ref14_person : ConOK Try.prog 59 c_ref14_person := con_ok (ConsOK.nil) L_ref14_person Ls_ref14_person (B := B_ref14_person) (BodiesOK.nil) Try.func59 rfl fun x y hf h => (run_ref14_person x).trans (eq_ref14_person x y hf h)
noncomputable def L_ref14_slot : List (Nat × LD) := []
noncomputable def Ls_ref14_slot : List (Nat × List (Nat × LD)) := []
noncomputable def B_ref14_slot : Bodies := []
theorem run_ref14_slot (x : denL [.i]) : run [] L_ref14_slot Ls_ref14_slot B_ref14_slot Try.f60 [.i] [.bool] x = g_ref14_slot x := by kernel_rfl
theorem ok_ref14_slot : ConOK Try.prog 60 c_ref14_slot := con_ok (ConsOK.nil) L_ref14_slot Ls_ref14_slot (B := B_ref14_slot) (BodiesOK.nil) Try.func60 rfl fun x y hf h => (run_ref14_slot x).trans (eq_ref14_slot x y hf h)
noncomputable def L_ref14_epoch : List (Nat × LD) := []
noncomputable def Ls_ref14_epoch : List (Nat × List (Nat × LD)) := []
noncomputable def B_ref14_epoch : Bodies := []
theorem run_ref14_epoch (x : denL [.i]) : run [] L_ref14_epoch Ls_ref14_epoch B_ref14_epoch Try.f61 [.i] [.bool] x = g_ref14_epoch x := by kernel_rfl
theorem ok_ref14_epoch : ConOK Try.prog 61 c_ref14_epoch := con_ok (ConsOK.nil) L_ref14_epoch Ls_ref14_epoch (B := B_ref14_epoch) (BodiesOK.nil) Try.func61 rfl fun x y hf h => (run_ref14_epoch x).trans (eq_ref14_epoch x y hf h)
noncomputable def L_ref14_GoodReply : List (Nat × LD) := [(2, ⟨⟨[(1, .ptr 0 []), (3, .hole .i)], [(0, (.st .reply), .hole (.st .reply))], []⟩, [(.ret, ⟨[(2, .hole .bool)], [], []⟩), (.exit 0, ⟨[(1, .ptr 0 [])], [(0, (.st .reply), .hole (.st .reply))], []⟩)], 10⟩)]
noncomputable def Ls_ref14_GoodReply : List (Nat × List (Nat × LD)) := []
noncomputable def B_ref14_GoodReply : Bodies := []
theorem run_ref14_GoodReply (x : denL [(.st .reply)]) : run [(58, c_ref02_GoodBox), (59, c_ref14_person), (60, c_ref14_slot), (61, c_ref14_epoch)] L_ref14_GoodReply Ls_ref14_GoodReply B_ref14_GoodReply Try.f33 [(.st .reply)] [.bool] x = g_ref14_GoodReply x := by kernel_rfl
theorem ok_ref14_GoodReply : ConOK Try.prog 33 c_ref14_GoodReply := con_ok (ConsOK.cons ok_ref02_GoodBox (ConsOK.cons ok_ref14_person (ConsOK.cons ok_ref14_slot (ConsOK.cons ok_ref14_epoch (ConsOK.nil))))) L_ref14_GoodReply Ls_ref14_GoodReply (B := B_ref14_GoodReply) (BodiesOK.nil) Try.func33 rfl fun x y hf h => (run_ref14_GoodReply x).trans (eq_ref14_GoodReply x y hf h)
noncomputable def L_wire_between : List (Nat × LD) := []
noncomputable def Ls_wire_between : List (Nat × List (Nat × LD)) := []
noncomputable def B_wire_between : Bodies := []
theorem run_wire_between (x : denL [.i, .i, .i]) : run [] L_wire_between Ls_wire_between B_wire_between Try.f78 [.i, .i, .i] [.bool] x = g_wire_between x := by kernel_rfl
theorem ok_wire_between : ConOK Try.prog 78 c_wire_between := con_ok (ConsOK.nil) L_wire_between Ls_wire_between (B := B_wire_between) (BodiesOK.nil) Try.func78 rfl fun x y hf h => (run_wire_between x).trans (eq_wire_between x y hf h)
noncomputable def L_wire_epoch : List (Nat × LD) := []
noncomputable def Ls_wire_epoch : List (Nat × List (Nat × LD)) := []
noncomputable def B_wire_epoch : Bodies := []
theorem run_wire_epoch (x : denL [.i]) : run [(78, c_wire_between)] L_wire_epoch Ls_wire_epoch B_wire_epoch Try.f79 [.i] [.bool] x = g_wire_epoch x := by kernel_rfl
theorem ok_wire_epoch : ConOK Try.prog 79 c_wire_epoch := con_ok (ConsOK.cons ok_wire_between (ConsOK.nil)) L_wire_epoch Ls_wire_epoch (B := B_wire_epoch) (BodiesOK.nil) Try.func79 rfl fun x y hf h => (run_wire_epoch x).trans (eq_wire_epoch x y hf h)
noncomputable def L_wire_seat : List (Nat × LD) := []
noncomputable def Ls_wire_seat : List (Nat × List (Nat × LD)) := []
noncomputable def B_wire_seat : Bodies := []
theorem run_wire_seat (x : denL [(.st .seat)]) : run [(78, c_wire_between)] L_wire_seat Ls_wire_seat B_wire_seat Try.f81 [(.st .seat)] [.bool] x = g_wire_seat x := by kernel_rfl
theorem ok_wire_seat : ConOK Try.prog 81 c_wire_seat := con_ok (ConsOK.cons ok_wire_between (ConsOK.nil)) L_wire_seat Ls_wire_seat (B := B_wire_seat) (BodiesOK.nil) Try.func81 rfl fun x y hf h => (run_wire_seat x).trans (eq_wire_seat x y hf h)
noncomputable def L_wire_box : List (Nat × LD) := []
noncomputable def Ls_wire_box : List (Nat × List (Nat × LD)) := []
noncomputable def B_wire_box : Bodies := []
theorem run_wire_box (x : denL [(.st .box)]) : run [(52, c_key_Good)] L_wire_box Ls_wire_box B_wire_box Try.f85 [(.st .box)] [.bool] x = g_wire_box x := by kernel_rfl
theorem ok_wire_box : ConOK Try.prog 85 c_wire_box := con_ok (ConsOK.cons ok_key_Good (ConsOK.nil)) L_wire_box Ls_wire_box (B := B_wire_box) (BodiesOK.nil) Try.func85 rfl fun x y hf h => (run_wire_box x).trans (eq_wire_box x y hf h)
noncomputable def L_wire_item : List (Nat × LD) := []
noncomputable def Ls_wire_item : List (Nat × List (Nat × LD)) := []
noncomputable def B_wire_item : Bodies := []
theorem run_wire_item (x : denL [(.st .item)]) : run [(78, c_wire_between), (99, c_shape_Below), (85, c_wire_box)] L_wire_item Ls_wire_item B_wire_item Try.f83 [(.st .item)] [.bool] x = g_wire_item x := by kernel_rfl
theorem ok_wire_item : ConOK Try.prog 83 c_wire_item := con_ok (ConsOK.cons ok_wire_between (ConsOK.cons ok_shape_Below (ConsOK.cons ok_wire_box (ConsOK.nil)))) L_wire_item Ls_wire_item (B := B_wire_item) (BodiesOK.nil) Try.func83 rfl fun x y hf h => (run_wire_item x).trans (eq_wire_item x y hf h)
noncomputable def L_wire_empty : List (Nat × LD) := []
noncomputable def Ls_wire_empty : List (Nat × List (Nat × LD)) := []
noncomputable def B_wire_empty : Bodies := []
theorem run_wire_empty (x : denL [(.st .rekey)]) : run [] L_wire_empty Ls_wire_empty B_wire_empty Try.f77 [(.st .rekey)] [.bool] x = g_wire_empty x := by kernel_rfl
theorem ok_wire_empty : ConOK Try.prog 77 c_wire_empty := con_ok (ConsOK.nil) L_wire_empty Ls_wire_empty (B := B_wire_empty) (BodiesOK.nil) Try.func77 rfl fun x y hf h => (run_wire_empty x).trans (eq_wire_empty x y hf h)
noncomputable def L_wire_Good : List (Nat × LD) := [(5, ⟨⟨[(1, .ptr 0 []), (29, .hole (.arr 4 .bool)), (30, .hole .i)], [(0, (.st .message), .hole (.st .message))], []⟩, [(.ret, ⟨[(2, .hole .bool)], [], []⟩), (.exit 0, ⟨[(1, .ptr 0 [])], [(0, (.st .message), .hole (.st .message))], []⟩)], 10⟩)]
noncomputable def Ls_wire_Good : List (Nat × List (Nat × LD)) := [(80, [(2, ⟨⟨[(0, .hole (.list (.st .seat))), (1, .hole .i), (2, .fn 81 []), (9, .hole (.list (.st .seat))), (10, .hole .i), (11, .hole .i)], [(0, (.st .message), .hole (.st .message)), (12, (.st .rekey), .hole (.st .rekey))], []⟩, [(.ret, ⟨[(6, .hole .bool)], [(0, (.st .message), .hole (.st .message)), (12, (.st .rekey), .hole (.st .rekey))], []⟩), (.exit 0, ⟨[(0, .hole (.list (.st .seat))), (1, .hole .i)], [(0, (.st .message), .hole (.st .message)), (12, (.st .rekey), .hole (.st .rekey))], []⟩)], 11⟩)]), (82, [(2, ⟨⟨[(0, .hole (.list (.st .item))), (1, .hole .i), (2, .fn 83 []), (9, .hole (.list (.st .item))), (10, .hole .i), (11, .hole .i)], [(0, (.st .message), .hole (.st .message)), (12, (.st .rekey), .hole (.st .rekey))], []⟩, [(.ret, ⟨[(6, .hole .bool)], [(0, (.st .message), .hole (.st .message)), (12, (.st .rekey), .hole (.st .rekey))], []⟩), (.exit 0, ⟨[(0, .hole (.list (.st .item))), (1, .hole .i)], [(0, (.st .message), .hole (.st .message)), (12, (.st .rekey), .hole (.st .rekey))], []⟩)], 11⟩)]), (84, [(2, ⟨⟨[(0, .asl 12 [.fld 3]), (1, .hole .i), (2, .fn 85 []), (9, .asl 12 [.fld 3]), (10, .hole .i), (11, .hole .i)], [(0, (.st .message), .hole (.st .message)), (12, (.st .reply), .hole (.st .reply))], []⟩, [(.ret, ⟨[(6, .hole .bool)], [(0, (.st .message), .hole (.st .message)), (12, (.st .reply), .hole (.st .reply))], []⟩), (.exit 0, ⟨[(0, .asl 12 [.fld 3]), (1, .hole .i)], [(0, (.st .message), .hole (.st .message)), (12, (.st .reply), .hole (.st .reply))], []⟩)], 11⟩)])]
noncomputable def B_wire_Good : Bodies := [bodyLine 80 Try.f80, bodyLine 82 Try.f82, bodyLine 84 Try.f84]
theorem run_wire_Good (x : denL [(.st .message)]) : run [(77, c_wire_empty), (78, c_wire_between), (79, c_wire_epoch), (81, c_wire_seat), (83, c_wire_item), (85, c_wire_box), (52, c_key_Good)] L_wire_Good Ls_wire_Good B_wire_Good Try.f55 [(.st .message)] [.bool] x = g_wire_Good x := by kernel_rfl
theorem ok_wire_Good : ConOK Try.prog 55 c_wire_Good := con_ok (ConsOK.cons ok_wire_empty (ConsOK.cons ok_wire_between (ConsOK.cons ok_wire_epoch (ConsOK.cons ok_wire_seat (ConsOK.cons ok_wire_item (ConsOK.cons ok_wire_box (ConsOK.cons ok_key_Good (ConsOK.nil)))))))) L_wire_Good Ls_wire_Good (B := B_wire_Good) (BodiesOK.cons Try.func80 rfl (BodiesOK.cons Try.func82 rfl (BodiesOK.cons Try.func84 rfl (BodiesOK.nil)))) Try.func55 rfl fun x y hf h => (run_wire_Good x).trans (eq_wire_Good x y hf h)
noncomputable def L_recovery_asks : List (Nat × LD) := []
noncomputable def Ls_recovery_asks : List (Nat × List (Nat × LD)) := []
noncomputable def B_recovery_asks : Bodies := []
theorem run_recovery_asks (x : denL [(.st .member)]) : run [(71, c_member_Kind)] L_recovery_asks Ls_recovery_asks B_recovery_asks Try.f46 [(.st .member)] [.i] x = g_recovery_asks x := by kernel_rfl
theorem ok_recovery_asks : ConOK Try.prog 46 c_recovery_asks := con_ok (ConsOK.cons ok_member_Kind (ConsOK.nil)) L_recovery_asks Ls_recovery_asks (B := B_recovery_asks) (BodiesOK.nil) Try.func46 rfl fun x y hf h => (run_recovery_asks x).trans (eq_recovery_asks x y hf h)
noncomputable def L_recovery_Needs : List (Nat × LD) := []
noncomputable def Ls_recovery_Needs : List (Nat × List (Nat × LD)) := []
noncomputable def B_recovery_Needs : Bodies := []
theorem run_recovery_Needs (x : denL [(.st .member)]) : run [(46, c_recovery_asks)] L_recovery_Needs Ls_recovery_Needs B_recovery_Needs Try.f22 [(.st .member)] [.bool] x = g_recovery_Needs x := by kernel_rfl
theorem ok_recovery_Needs : ConOK Try.prog 22 c_recovery_Needs := con_ok (ConsOK.cons ok_recovery_asks (ConsOK.nil)) L_recovery_Needs Ls_recovery_Needs (B := B_recovery_Needs) (BodiesOK.nil) Try.func22 rfl fun x y hf h => (run_recovery_Needs x).trans (eq_recovery_Needs x y hf h)
noncomputable def L_recovery_Ask : List (Nat × LD) := []
noncomputable def Ls_recovery_Ask : List (Nat × List (Nat × LD)) := []
noncomputable def B_recovery_Ask : Bodies := []
theorem run_recovery_Ask (x : denL [(.st .member)]) : run [(46, c_recovery_asks)] L_recovery_Ask Ls_recovery_Ask B_recovery_Ask Try.f21 [(.st .member)] [(.st .request), .i] x = g_recovery_Ask x := by kernel_rfl
theorem ok_recovery_Ask : ConOK Try.prog 21 c_recovery_Ask := con_ok (ConsOK.cons ok_recovery_asks (ConsOK.nil)) L_recovery_Ask Ls_recovery_Ask (B := B_recovery_Ask) (BodiesOK.nil) Try.func21 rfl fun x y hf h => (run_recovery_Ask x).trans (eq_recovery_Ask x y hf h)
noncomputable def L_recovery_Answer : List (Nat × LD) := [(13, ⟨⟨[(4, .ptr 2 []), (7, .ptr 3 []), (9, .ptr 4 []), (57, .hole (.arr 3 (.st .key))), (58, .hole .i)], [(2, (.st .reply), .hole (.st .reply)), (3, (.st .member), .hole (.st .member)), (4, (.st .reply), .hole (.st .reply))], []⟩, [(.exit 0, ⟨[(4, .ptr 2 []), (9, .ptr 4 [])], [(2, (.st .reply), .hole (.st .reply)), (4, (.st .reply), .hole (.st .reply))], []⟩)], 11⟩)]
noncomputable def Ls_recovery_Answer : List (Nat × List (Nat × LD)) := []
noncomputable def B_recovery_Answer : Bodies := []
theorem run_recovery_Answer (x : denL [(.st .tree), (.st .request)]) : run [(26, c_keytree_Check), (27, c_keytree_Stand), (28, c_key_Seal)] L_recovery_Answer Ls_recovery_Answer B_recovery_Answer Try.f10 [(.st .tree), (.st .request)] [(.st .reply), .i] x = g_recovery_Answer x := by kernel_rfl
theorem ok_recovery_Answer : ConOK Try.prog 10 c_recovery_Answer := con_ok (ConsOK.cons ok_keytree_Check (ConsOK.cons ok_keytree_Stand (ConsOK.cons ok_key_Seal (ConsOK.nil)))) L_recovery_Answer Ls_recovery_Answer (B := B_recovery_Answer) (BodiesOK.nil) Try.func10 rfl fun x y hf h => (run_recovery_Answer x).trans (eq_recovery_Answer x y hf h)
noncomputable def L_recovery_fits : List (Nat × LD) := []
noncomputable def Ls_recovery_fits : List (Nat × List (Nat × LD)) := []
noncomputable def B_recovery_fits : Bodies := []
theorem run_recovery_fits (x : denL [(.st .member), (.st .reply)]) : run [(46, c_recovery_asks), (55, c_wire_Good)] L_recovery_fits Ls_recovery_fits B_recovery_fits Try.f30 [(.st .member), (.st .reply)] [.i] x = g_recovery_fits x := by kernel_rfl
theorem ok_recovery_fits : ConOK Try.prog 30 c_recovery_fits := con_ok (ConsOK.cons ok_recovery_asks (ConsOK.cons ok_wire_Good (ConsOK.nil))) L_recovery_fits Ls_recovery_fits (B := B_recovery_fits) (BodiesOK.nil) Try.func30 rfl fun x y hf h => (run_recovery_fits x).trans (eq_recovery_fits x y hf h)
noncomputable def L_recovery_Take : List (Nat × LD) := [(9, ⟨⟨[(2, .ptr 0 []), (4, .ptr 2 []), (9, .ptr 4 []), (49, .hole (.arr 3 (.st .box))), (50, .hole .i)], [(0, (.st .member), .hole (.st .member)), (2, (.st .member), .hole (.st .member)), (4, (.st .member), .hole (.st .member))], []⟩, [(.ret, ⟨[(4, .ptr 2 []), (5, .hole .i)], [(2, (.st .member), .hole (.st .member))], []⟩), (.exit 0, ⟨[(2, .ptr 0 []), (4, .ptr 2 []), (9, .ptr 4 [])], [(0, (.st .member), .hole (.st .member)), (2, (.st .member), .hole (.st .member)), (4, (.st .member), .hole (.st .member))], []⟩)], 11⟩)]
noncomputable def Ls_recovery_Take : List (Nat × List (Nat × LD)) := []
noncomputable def B_recovery_Take : Bodies := []
theorem run_recovery_Take (x : denL [(.st .member), (.st .reply)]) : run [(30, c_recovery_fits), (31, c_ratchet_Follow), (32, c_key_Open)] L_recovery_Take Ls_recovery_Take B_recovery_Take Try.f12 [(.st .member), (.st .reply)] [(.st .member), .i] x = g_recovery_Take x := by kernel_rfl
theorem ok_recovery_Take : ConOK Try.prog 12 c_recovery_Take := con_ok (ConsOK.cons ok_recovery_fits (ConsOK.cons ok_ratchet_Follow (ConsOK.cons ok_key_Open (ConsOK.nil)))) L_recovery_Take Ls_recovery_Take (B := B_recovery_Take) (BodiesOK.nil) Try.func12 rfl fun x y hf h => (run_recovery_Take x).trans (eq_recovery_Take x y hf h)
noncomputable def L_ref16_Needs : List (Nat × LD) := []
noncomputable def Ls_ref16_Needs : List (Nat × List (Nat × LD)) := []
noncomputable def B_ref16_Needs : Bodies := []
theorem run_ref16_Needs (x : denL [(.st .member)]) : run [(14, c_ref15_Kind)] L_ref16_Needs Ls_ref16_Needs B_ref16_Needs Try.f23 [(.st .member)] [.bool] x = g_ref16_Needs x := by kernel_rfl
theorem ok_ref16_Needs : ConOK Try.prog 23 c_ref16_Needs := con_ok (ConsOK.cons ok_ref15_Kind (ConsOK.nil)) L_ref16_Needs Ls_ref16_Needs (B := B_ref16_Needs) (BodiesOK.nil) Try.func23 rfl fun x y hf h => (run_ref16_Needs x).trans (eq_ref16_Needs x y hf h)
noncomputable def L_ref16_Ask : List (Nat × LD) := []
noncomputable def Ls_ref16_Ask : List (Nat × List (Nat × LD)) := []
noncomputable def B_ref16_Ask : Bodies := []
theorem run_ref16_Ask (x : denL [(.st .member)]) : run [(14, c_ref15_Kind)] L_ref16_Ask Ls_ref16_Ask B_ref16_Ask Try.f24 [(.st .member)] [(.st .request), .i] x = g_ref16_Ask x := by kernel_rfl
theorem ok_ref16_Ask : ConOK Try.prog 24 c_ref16_Ask := con_ok (ConsOK.cons ok_ref15_Kind (ConsOK.nil)) L_ref16_Ask Ls_ref16_Ask (B := B_ref16_Ask) (BodiesOK.nil) Try.func24 rfl fun x y hf h => (run_ref16_Ask x).trans (eq_ref16_Ask x y hf h)
noncomputable def L_ref16_Answer : List (Nat × LD) := [(12, ⟨⟨[(4, .ptr 2 []), (6, .ptr 3 []), (8, .ptr 4 []), (9, .hole .i)], [(2, (.st .reply), .hole (.st .reply)), (3, (.st .member), .hole (.st .member)), (4, (.st .reply), .hole (.st .reply))], []⟩, [(.exit 0, ⟨[(4, .ptr 2 []), (8, .ptr 4 [])], [(2, (.st .reply), .hole (.st .reply)), (4, (.st .reply), .hole (.st .reply))], []⟩)], 10⟩)]
noncomputable def Ls_ref16_Answer : List (Nat × List (Nat × LD)) := []
noncomputable def B_ref16_Answer : Bodies := []
theorem run_ref16_Answer (x : denL [(.st .tree), (.st .request)]) : run [(29, c_ref11_Check), (15, c_ref11_Stand)] L_ref16_Answer Ls_ref16_Answer B_ref16_Answer Try.f11 [(.st .tree), (.st .request)] [(.st .reply), .i] x = g_ref16_Answer x := by kernel_rfl
theorem ok_ref16_Answer : ConOK Try.prog 11 c_ref16_Answer := con_ok (ConsOK.cons ok_ref11_Check (ConsOK.cons ok_ref11_Stand (ConsOK.nil))) L_ref16_Answer Ls_ref16_Answer (B := B_ref16_Answer) (BodiesOK.nil) Try.func11 rfl fun x y hf h => (run_ref16_Answer x).trans (eq_ref16_Answer x y hf h)
noncomputable def L_ref16_Take : List (Nat × LD) := [(18, ⟨⟨[(2, .ptr 0 []), (3, .ptr 1 []), (4, .ptr 2 []), (7, .ptr 3 []), (8, .ptr 4 []), (10, .hole .i)], [(0, (.st .member), .hole (.st .member)), (1, (.st .reply), .hole (.st .reply)), (2, (.st .member), .hole (.st .member)), (3, (.st .member), .hole (.st .member)), (4, (.st .key), .hole (.st .key))], []⟩, [(.ret, ⟨[(4, .ptr 2 []), (5, .hole .i)], [(2, (.st .member), .hole (.st .member))], []⟩), (.exit 1, ⟨[(4, .ptr 2 []), (7, .ptr 3 [])], [(2, (.st .member), .hole (.st .member)), (3, (.st .member), .hole (.st .member))], []⟩)], 11⟩)]
noncomputable def Ls_ref16_Take : List (Nat × List (Nat × LD)) := []
noncomputable def B_ref16_Take : Bodies := []
theorem run_ref16_Take (x : denL [(.st .member), (.st .reply)]) : run [(14, c_ref15_Kind), (33, c_ref14_GoodReply), (34, c_ref02_Ahead), (35, c_ref02_Open), (36, c_ref15_Calm)] L_ref16_Take Ls_ref16_Take B_ref16_Take Try.f13 [(.st .member), (.st .reply)] [(.st .member), .i] x = g_ref16_Take x := by kernel_rfl
theorem ok_ref16_Take : ConOK Try.prog 13 c_ref16_Take := con_ok (ConsOK.cons ok_ref15_Kind (ConsOK.cons ok_ref14_GoodReply (ConsOK.cons ok_ref02_Ahead (ConsOK.cons ok_ref02_Open (ConsOK.cons ok_ref15_Calm (ConsOK.nil)))))) L_ref16_Take Ls_ref16_Take (B := B_ref16_Take) (BodiesOK.nil) Try.func13 rfl fun x y hf h => (run_ref16_Take x).trans (eq_ref16_Take x y hf h)
noncomputable def L_law16_three : List (Nat × LD) := [(3, ⟨⟨[(0, .hole .i), (2, .ptr 0 []), (3, .ptr 2 []), (6, .hole .i)], [(0, (.st .tree), .hole (.st .tree)), (2, (.st .tree), .hole (.st .tree))], []⟩, [(.exit 0, ⟨[(2, .ptr 0 []), (3, .ptr 2 [])], [(0, (.st .tree), .hole (.st .tree)), (2, (.st .tree), .hole (.st .tree))], []⟩)], 10⟩)]
noncomputable def Ls_law16_three : List (Nat × List (Nat × LD)) := []
noncomputable def B_law16_three : Bodies := []
theorem run_law16_three (x : denL [.i]) : run [(47, c_ref11_Start), (18, c_ref12_Next)] L_law16_three Ls_law16_three B_law16_three Try.f25 [.i] [(.st .tree)] x = g_law16_three x := by kernel_rfl
theorem ok_law16_three : ConOK Try.prog 25 c_law16_three := con_ok (ConsOK.cons ok_ref11_Start (ConsOK.cons ok_ref12_Next (ConsOK.nil))) L_law16_three Ls_law16_three (B := B_law16_three) (BodiesOK.nil) Try.func25 rfl fun x y hf h => (run_law16_three x).trans (eq_law16_three x y hf h)
noncomputable def L_law16_lives : List (Nat × LD) := []
noncomputable def Ls_law16_lives : List (Nat × List (Nat × LD)) := []
noncomputable def B_law16_lives : Bodies := []
theorem run_law16_lives (x : denL []) : run [(25, c_law16_three), (15, c_ref11_Stand), (10, c_recovery_Answer), (12, c_recovery_Take)] L_law16_lives Ls_law16_lives B_law16_lives Try.f9 [] [.bool] x = g_law16_lives x := by kernel_rfl
theorem ok_law16_lives : ConOK Try.prog 9 c_law16_lives := con_ok (ConsOK.cons ok_law16_three (ConsOK.cons ok_ref11_Stand (ConsOK.cons ok_recovery_Answer (ConsOK.cons ok_recovery_Take (ConsOK.nil))))) L_law16_lives Ls_law16_lives (B := B_law16_lives) (BodiesOK.nil) Try.func9 rfl fun x y hf h => (run_law16_lives x).trans (eq_law16_lives x y hf h)
noncomputable def L_law16_RecoveryAsks : List (Nat × LD) := []
noncomputable def Ls_law16_RecoveryAsks : List (Nat × List (Nat × LD)) := []
noncomputable def B_law16_RecoveryAsks : Bodies := []
theorem run_law16_RecoveryAsks (x : denL [(.st .member)]) : run [(9, c_law16_lives), (22, c_recovery_Needs), (23, c_ref16_Needs), (21, c_recovery_Ask), (24, c_ref16_Ask)] L_law16_RecoveryAsks Ls_law16_RecoveryAsks B_law16_RecoveryAsks Try.f8 [(.st .member)] [.bool] x = g_law16_RecoveryAsks x := by kernel_rfl
theorem ok_law16_RecoveryAsks : ConOK Try.prog 8 c_law16_RecoveryAsks := con_ok (ConsOK.cons ok_law16_lives (ConsOK.cons ok_recovery_Needs (ConsOK.cons ok_ref16_Needs (ConsOK.cons ok_recovery_Ask (ConsOK.cons ok_ref16_Ask (ConsOK.nil)))))) L_law16_RecoveryAsks Ls_law16_RecoveryAsks (B := B_law16_RecoveryAsks) (BodiesOK.nil) Try.func8 rfl fun x y hf h => (run_law16_RecoveryAsks x).trans (eq_law16_RecoveryAsks x y hf h)
noncomputable def L_law16_RecoveryAnswers : List (Nat × LD) := []
noncomputable def Ls_law16_RecoveryAnswers : List (Nat × List (Nat × LD)) := []
noncomputable def B_law16_RecoveryAnswers : Bodies := []
theorem run_law16_RecoveryAnswers (x : denL [(.st .tree), (.st .request)]) : run [(9, c_law16_lives), (10, c_recovery_Answer), (11, c_ref16_Answer)] L_law16_RecoveryAnswers Ls_law16_RecoveryAnswers B_law16_RecoveryAnswers Try.f3 [(.st .tree), (.st .request)] [.bool] x = g_law16_RecoveryAnswers x := by kernel_rfl
theorem ok_law16_RecoveryAnswers : ConOK Try.prog 3 c_law16_RecoveryAnswers := con_ok (ConsOK.cons ok_law16_lives (ConsOK.cons ok_recovery_Answer (ConsOK.cons ok_ref16_Answer (ConsOK.nil)))) L_law16_RecoveryAnswers Ls_law16_RecoveryAnswers (B := B_law16_RecoveryAnswers) (BodiesOK.nil) Try.func3 rfl fun x y hf h => (run_law16_RecoveryAnswers x).trans (eq_law16_RecoveryAnswers x y hf h)
noncomputable def L_law16_RecoveryTakes : List (Nat × LD) := []
noncomputable def Ls_law16_RecoveryTakes : List (Nat × List (Nat × LD)) := []
noncomputable def B_law16_RecoveryTakes : Bodies := []
theorem run_law16_RecoveryTakes (x : denL [(.st .member), (.st .reply)]) : run [(9, c_law16_lives), (12, c_recovery_Take), (13, c_ref16_Take), (14, c_ref15_Kind)] L_law16_RecoveryTakes Ls_law16_RecoveryTakes B_law16_RecoveryTakes Try.f4 [(.st .member), (.st .reply)] [.bool] x = g_law16_RecoveryTakes x := by kernel_rfl
theorem ok_law16_RecoveryTakes : ConOK Try.prog 4 c_law16_RecoveryTakes := con_ok (ConsOK.cons ok_law16_lives (ConsOK.cons ok_recovery_Take (ConsOK.cons ok_ref16_Take (ConsOK.cons ok_ref15_Kind (ConsOK.nil))))) L_law16_RecoveryTakes Ls_law16_RecoveryTakes (B := B_law16_RecoveryTakes) (BodiesOK.nil) Try.func4 rfl fun x y hf h => (run_law16_RecoveryTakes x).trans (eq_law16_RecoveryTakes x y hf h)
noncomputable def L_law16_RecoveryBrings : List (Nat × LD) := [(8, ⟨⟨[(1, .ptr 0 []), (3, .ptr 1 []), (5, .ptr 2 []), (34, .hole (.list (.st .batch))), (35, .hole .i), (36, .hole .i)], [(0, (.st .lag), .hole (.st .lag)), (1, (.st .member), .hole (.st .member)), (2, (.st .tree), .hole (.st .tree))], []⟩, [(.exit 0, ⟨[(1, .ptr 0 []), (3, .ptr 1 []), (5, .ptr 2 [])], [(0, (.st .lag), .hole (.st .lag)), (1, (.st .member), .hole (.st .member)), (2, (.st .tree), .hole (.st .tree))], []⟩)], 13⟩)]
noncomputable def Ls_law16_RecoveryBrings : List (Nat × List (Nat × LD)) := []
noncomputable def B_law16_RecoveryBrings : Bodies := []
theorem run_law16_RecoveryBrings (x : denL [(.st .lag)]) : run [(9, c_law16_lives), (15, c_ref11_Stand), (18, c_ref12_Next), (21, c_recovery_Ask), (10, c_recovery_Answer), (12, c_recovery_Take)] L_law16_RecoveryBrings Ls_law16_RecoveryBrings B_law16_RecoveryBrings Try.f7 [(.st .lag)] [.bool] x = g_law16_RecoveryBrings x := by kernel_rfl
theorem ok_law16_RecoveryBrings : ConOK Try.prog 7 c_law16_RecoveryBrings := con_ok (ConsOK.cons ok_law16_lives (ConsOK.cons ok_ref11_Stand (ConsOK.cons ok_ref12_Next (ConsOK.cons ok_recovery_Ask (ConsOK.cons ok_recovery_Answer (ConsOK.cons ok_recovery_Take (ConsOK.nil))))))) L_law16_RecoveryBrings Ls_law16_RecoveryBrings (B := B_law16_RecoveryBrings) (BodiesOK.nil) Try.func7 rfl fun x y hf h => (run_law16_RecoveryBrings x).trans (eq_law16_RecoveryBrings x y hf h)
noncomputable def L_law16_RecoveryStrange : List (Nat × LD) := [(16, ⟨⟨[(5, .ptr 1 []), (7, .ptr 2 []), (8, .hole .i), (9, .ptr 3 []), (10, .ptr 4 []), (11, .hole .bool), (12, .hole .i)], [(1, (.st .key), .hole (.st .key)), (2, (.st .member), .hole (.st .member)), (3, (.st .reply), .hole (.st .reply)), (4, (.st .member), .hole (.st .member))], []⟩, [(.exit 0, ⟨[(7, .ptr 2 []), (8, .hole .i), (10, .ptr 4 []), (11, .hole .bool)], [(2, (.st .member), .hole (.st .member)), (4, (.st .member), .hole (.st .member))], []⟩)], 10⟩)]
noncomputable def Ls_law16_RecoveryStrange : List (Nat × List (Nat × LD)) := []
noncomputable def B_law16_RecoveryStrange : Bodies := []
theorem run_law16_RecoveryStrange (x : denL [(.st .tree), .i, (.st .key)]) : run [(9, c_law16_lives), (15, c_ref11_Stand), (10, c_recovery_Answer), (12, c_recovery_Take), (16, c_ref02_Good), (17, c_ref02_Gives)] L_law16_RecoveryStrange Ls_law16_RecoveryStrange B_law16_RecoveryStrange Try.f5 [(.st .tree), .i, (.st .key)] [.bool] x = g_law16_RecoveryStrange x := by kernel_rfl
theorem ok_law16_RecoveryStrange : ConOK Try.prog 5 c_law16_RecoveryStrange := con_ok (ConsOK.cons ok_law16_lives (ConsOK.cons ok_ref11_Stand (ConsOK.cons ok_recovery_Answer (ConsOK.cons ok_recovery_Take (ConsOK.cons ok_ref02_Good (ConsOK.cons ok_ref02_Gives (ConsOK.nil))))))) L_law16_RecoveryStrange Ls_law16_RecoveryStrange (B := B_law16_RecoveryStrange) (BodiesOK.nil) Try.func5 rfl fun x y hf h => (run_law16_RecoveryStrange x).trans (eq_law16_RecoveryStrange x y hf h)
end Go.Proofs.Ytnepdmajobfcdaa
end
