/-
  What a step's message holds, and what it does to who stays, who joined, who left.
  Own text, for the claims about coterie. No program in sight.
-/
import Derived.Test.YtghmcodjbkmlnaaN12T
import Derived.Test.YtghmcodjbkmlnaaN15Q
namespace Go.Co.N
open Go Go.Co

/-! ### Items -/
theorem nodeItems_mem {n : Tree} {m : Int} {v : Nat} {x : Co.Item} : x ∈ nodeItems n m v ↔ inB m v = true ∧ ∃ i : Nat, i < 4 ∧ belowR n.Roster (child v i) = true ∧ x = itemOf n v (child v i) := by
  unfold nodeItems
  cases inB m v with
  | false => simp
  | true =>
    simp only [cond_true, List.mem_map, List.mem_filter, List.mem_range, true_and]
    constructor
    · rintro ⟨i, ⟨h1, h2⟩, rfl⟩; exact ⟨i, h1, h2, rfl⟩
    · rintro ⟨i, h1, h2, rfl⟩; exact ⟨i, ⟨h1, h2⟩, rfl⟩
theorem itemsUp_mem {n : Tree} {m : Int} {x : Co.Item} : ∀ k : Nat, x ∈ itemsUp n m k ↔ ∃ v : Nat, v < k ∧ x ∈ nodeItems n m v
  | 0 => by simp [itemsUp]
  | k + 1 => by
    simp only [itemsUp, List.mem_append, itemsUp_mem k]
    constructor
    · rintro (h | ⟨v, hv, h⟩)
      · exact ⟨k, by omega, h⟩
      · exact ⟨v, by omega, h⟩
    · rintro ⟨v, hv, h⟩
      by_cases e : v = k
      · subst e; exact .inl h
      · exact .inr ⟨v, by omega, h⟩
theorem joinItems_mem {n : Tree} {m s : Int} {x : Co.Item} : x ∈ joinItems n m s ↔ ∃ i : Nat, i < 3 ∧ inB m (Arr.get (pathG s) (i : Int)) = false ∧ x = itemOf n (Arr.get (pathG s) (i : Int)) (leaf s) := by
  unfold joinItems
  simp only [List.mem_map, List.mem_filter, List.mem_range, Bool.not_eq_true']
  constructor
  · rintro ⟨i, ⟨h1, h2⟩, rfl⟩; exact ⟨i, h1, h2, rfl⟩
  · rintro ⟨i, h1, h2, rfl⟩; exact ⟨i, ⟨h1, h2⟩, rfl⟩
theorem items_mem {n : Tree} {left joined : List Co.Seat} {x : Co.Item} : x ∈ items n left joined ↔
    (∃ v : Nat, v < 21 ∧ inB (replaced left) v = true ∧ ∃ i : Nat, i < 4 ∧ belowR n.Roster (child v i) = true ∧ x = itemOf n v (child v i)) ∨
    (∃ s ∈ joined, ∃ i : Nat, i < 3 ∧ inB (replaced left) (Arr.get (pathG s.Slot) (i : Int)) = false ∧ x = itemOf n (Arr.get (pathG s.Slot) (i : Int)) (leaf s.Slot)) := by
  unfold items
  rw [List.mem_append, itemsUp_mem, List.mem_flatMap]
  constructor
  · rintro (⟨v, hv, h⟩ | ⟨s, hs, h⟩)
    · obtain ⟨h1, h2⟩ := nodeItems_mem.1 h
      exact .inl ⟨v, hv, h1, h2⟩
    · exact .inr ⟨s, hs, joinItems_mem.1 h⟩
  · rintro (⟨v, hv, h1, h2⟩ | ⟨s, hs, h⟩)
    · exact .inl ⟨v, hv, nodeItems_mem.2 ⟨h1, h2⟩⟩
    · exact .inr ⟨s, hs, joinItems_mem.2 h⟩
theorem items_of {n : Tree} {left joined : List Co.Seat} {x : Co.Item} (h : x ∈ items n left joined) : x = itemOf n x.Node x.From := by
  rcases items_mem.1 h with ⟨v, _, _, i, _, _, rfl⟩ | ⟨s, _, i, _, _, rfl⟩ <;> rfl
theorem find_item {n : Tree} {l : List Co.Item} (hl : ∀ x ∈ l, x = itemOf n x.Node x.From) {v fr : Int} (h : itemOf n v fr ∈ l) : l.find? (fun i => decide (i.Node = v) && decide (i.From = fr)) = some (itemOf n v fr) := by
  cases hf : l.find? (fun i => decide (i.Node = v) && decide (i.From = fr)) with
  | none =>
    have := List.find?_eq_none.1 hf _ h
    simp [itemOf] at this
  | some y =>
    have h1 := List.mem_of_find?_eq_some hf
    have h2 := List.find?_some hf
    simp only [Bool.and_eq_true, decide_eq_true_eq] at h2
    rw [hl y h1, h2.1, h2.2]
theorem find_no {l : List Co.Item} {v fr : Int} (h : ∀ x ∈ l, x.Node = v → x.From = fr → False) : l.find? (fun i => decide (i.Node = v) && decide (i.From = fr)) = none := by
  refine List.find?_eq_none.2 fun x hx hc => ?_
  simp only [Bool.and_eq_true, decide_eq_true_eq] at hc
  exact h x hx hc.1 hc.2

/-! ### Up from a leaf -/
/-- The node below a path's place. -/
def belowAt (s : Nat) : Nat → Int
  | 0 => leaf s
  | i + 1 => pathAt s i
theorem path_child : allN 64 (fun s => allN 3 fun i => (anyN 4 fun j => decide (child (pathAt s i) j = belowAt s i)) && below (belowAt s i) (leaf s) && below (pathAt s i) (leaf s)) = true := by decide +kernel
theorem pathG_at {s : Nat} (hs : s < 64) (i : Nat) (hi : i < 3) : Arr.get (pathG (s : Int)) (i : Int) = pathAt s i := by
  unfold pathG
  rw [decide_eq_true (leaf_pos.2 ⟨by omega, by omega⟩)]
  exact pathN_get _ _ hi
theorem path_at {s : Nat} (hs : s < 64) (i : Nat) (hi : i < 3) : ∃ v : Nat, pathAt (s : Int) i = v ∧ v < 21 ∧ (∃ j : Nat, j < 4 ∧ child v j = belowAt s i) ∧ below (belowAt s i) (leaf s) = true ∧ below (pathAt s i) (leaf s) = true := by
  obtain ⟨h1, h2⟩ := pathAt_in (s := (s : Int)) (by omega) (by omega) i
  obtain ⟨v, hv⟩ := Int.eq_ofNat_of_zero_le h1
  have := allN_iff.1 (allN_iff.1 path_child s hs) i hi
  simp only [Bool.and_eq_true] at this
  obtain ⟨⟨h3, h4⟩, h5⟩ := this
  obtain ⟨j, hj, h6⟩ := anyN_iff.1 h3
  simp only [decide_eq_true_eq] at h6
  exact ⟨v, hv, by omega, ⟨j, hj, by rw [← hv]; exact h6⟩, h4, h5⟩
/-- A node's key in a tree. -/
abbrev keyN (n : Tree) (v : Int) : Key := (ofT n v).1
theorem keyN_inner (n : Tree) {v : Nat} (hv : v < 21) : keyN n v = Arr.get n.Keys (v : Int) := by rw [keyN, ofT_inner n hv]
theorem keyN_leaf (n : Tree) {s : Nat} (hs : s < 64) : keyN n (leaf s) = (leafAt (ent n.Roster s) n.Epoch).1 := by
  rw [keyN, leaf_in hs, show (21 + (s : Int)) = ((21 + s : Nat) : Int) by omega, ofT_leaf n hs]
theorem good_inner {n : Tree} (hg : goodTree n = true) {v : Nat} (hv : v < 21) : good (keyN n v) = true := by
  rw [keyN_inner n hv]; exact (goodKeys_iff.1 (goodTree_iff.1 hg).2.2.2.2.1 v hv).1
theorem good_leafK {n : Tree} (hg : goodTree n = true) {s : Nat} (hs : s < 64) (hon : isOn n.Roster s = true) : good (keyN n (leaf s)) = true := by
  have h0 : (ofT n ((21 + s : Nat) : Int)).2 = 0 := by rw [ofT_leaf n hs, leafAt_on hg hs hon]
  have := (ofT_ok hg (show 21 + s < 85 by omega) h0).1
  rw [keyN, leaf_in hs, show (21 + (s : Int)) = ((21 + s : Nat) : Int) by omega]
  exact this
theorem good_belowAt {n : Tree} (hg : goodTree n = true) {s : Nat} (hs : s < 64) (hon : isOn n.Roster s = true) (i : Nat) (hi : i < 3) : good (keyN n (belowAt s i)) = true := by
  cases i with
  | zero => exact good_leafK hg hs hon
  | succ i =>
    obtain ⟨v, hv, hv2, _⟩ := path_at hs i (by omega)
    rw [belowAt, hv]; exact good_inner hg hv2
theorem open_item {n : Tree} {v fr : Int} (h1 : good (keyN n v) = true) (h2 : good (keyN n fr) = true) : openB (itemOf n v fr).Box (keyN n fr) = (keyN n v, 0) := by
  unfold openB goodBox itemOf gives
  simp [h1, h2]
theorem belowR_on {r : Roster} {s : Nat} (hs : s < 64) (hon : isOn r s = true) {v : Int} (hb : below v (leaf s) = true) : belowR r v = true := anyN_iff.2 ⟨s, hs, by rw [hon, hb]; rfl⟩

/-- A device that stands at a tree, with what it saw beyond. -/
def withB (m : Member) (x : Int) : Member := ⟨m.Who, m.Slot, m.Epoch, m.Leaf, m.Path, m.Has, m.Out, x⟩
theorem calm_eq (m : Member) : calm m = if m.Behind ≤ m.Epoch then withB m 0 else m := by
  unfold calm
  by_cases h : m.Behind ≤ m.Epoch
  · rw [decide_eq_true h, if_pos h]; rfl
  · rw [decide_eq_false h, if_neg h]; rfl
section
variable {t : Tree} {b : Batch} (h : (nextT t b).e = 0)
/-- A step's message. -/
def msgOf (t : Tree) (b : Batch) : Rekey := ⟨(nextT t b).t.Epoch, (nextT t b).left, (nextT t b).joined, items (nextT t b).t (nextT t b).left (nextT t b).joined⟩
theorem nextR_eq : nextR t b = bif decide ((nextT t b).e = 0) then ((nextT t b).t, msgOf t b, 0) else (zeroT, St.zero .rekey, (nextT t b).e) := rfl
include h in
theorem nextR_is : nextR t b = ((nextT t b).t, msgOf t b, 0) := by rw [nextR_eq, decide_eq_true h]; rfl
theorem nextR_e : (nextR t b).2.2 = (nextT t b).e := by
  rw [nextR_eq]
  by_cases h : (nextT t b).e = 0
  · rw [decide_eq_true h, h]; rfl
  · rw [decide_eq_false h]; rfl
include h
omit h in
theorem msg_find {v fr : Int} (hm : itemOf (nextT t b).t v fr ∈ (msgOf t b).Items) : firstB (msgOf t b) v fr = some (itemOf (nextT t b).t v fr) := find_item (fun _ hx => items_of hx) hm
/-- On the way up a replaced node's key lies under the one below. -/
theorem msg_up {s : Nat} (hs : s < 64) (hon : isOn (nextT t b).t.Roster s = true) (i : Nat) (hi : i < 3) (hin : inB (replaced (nextT t b).left) (pathAt s i) = true) : openI (msgOf t b) (pathAt s i) (belowAt s i) (keyN (nextT t b).t (belowAt s i)) = (keyN (nextT t b).t (pathAt s i), 0) := by
  obtain ⟨v, hv, hv2, ⟨j, hj, hc⟩, h4, _⟩ := path_at hs i hi
  have hm : itemOf (nextT t b).t (pathAt s i) (belowAt s i) ∈ (msgOf t b).Items := items_mem.2 (.inl ⟨v, hv2, by rw [← hv]; exact hin, j, hj, by rw [hc]; exact belowR_on hs hon h4, by rw [hc, hv]⟩)
  unfold openI
  rw [msg_find hm]
  exact open_item (by rw [hv]; exact good_inner (nx_good h) hv2) (good_belowAt (nx_good h) hs hon i hi)
theorem kept_key {v : Nat} (hv : v < 21) (hin : ¬ inB (replaced (nextT t b).left) v = true) : ahead (Arr.get t.Keys (v : Int)) 1 = (Arr.get (nextT t b).t.Keys (v : Int), 0) := by
  obtain ⟨hk, hk1, hk2, hk3, hk4⟩ := nx_turn h
  have hgd := good_iff.1 (goodKeys_iff.1 hk1 v hv).1
  have hst := (hk4 v hv).resolve_left hin
  rw [hk, turned_get _ _ _ v hv, kept_at hin]
  unfold ahead
  rw [if_pos (goodKeys_iff.1 hk1 v hv).1, if_pos ⟨by omega, by simp only [stp] at hst; omega⟩]
theorem follow_up {s : Nat} (hs : s < 64) (hon : isOn (nextT t b).t.Roster s = true) (m : Member) (hm : m.Slot = s) : ∀ (d i : Nat) (p : Path), i + d = 3 → (∀ j : Nat, j < 3 → Arr.get p (j : Int) = if j < i then keyN (nextT t b).t (pathAt s j) else Arr.get t.Keys (pathAt s j)) →
    upP (followStep m (msgOf t b)) m.Slot d i p (belowAt s i) (keyN (nextT t b).t (belowAt s i)) = (pathK (nextT t b).t s, 0)
  | 0, i, p, hi, hp => by
    have : i = 3 := by omega
    subst this
    simp only [upP]
    congr 1
    refine arr_ext fun j h0 h1 => ?_
    obtain ⟨k, rfl⟩ := Int.eq_ofNat_of_zero_le h0
    obtain ⟨v, hv, hv2, _⟩ := path_at hs k (by omega)
    rw [hp k (by omega), if_pos (by omega), pathK, get_make _ _ h0 h1, Int.toNat_natCast, hv, keyN_inner _ hv2]
  | d + 1, i, p, hi, hp => by
    obtain ⟨v, hv, hv2, _⟩ := path_at hs i (by omega)
    have hst : followStep m (msgOf t b) p (i : Int) (belowAt s i) (keyN (nextT t b).t (belowAt s i)) = (keyN (nextT t b).t (pathAt s i), 0) := by
      unfold followStep
      rw [hm, pathG_at hs i (by omega)]
      cases hin : inB (replaced (msgOf t b).Leaves) (pathAt (s : Int) i) with
      | true => exact msg_up h hs hon i (by omega) hin
      | false =>
        simp only [cond_false]
        rw [hp i (by omega), if_neg (by omega), hv, keyN_inner _ hv2]
        refine kept_key h hv2 ?_
        rw [← hv]; exact Bool.eq_false_iff.1 hin
    simp only [upP, hst, decide_true, cond_true]
    have hpg : Arr.get (pathG m.Slot) (i : Int) = belowAt s (i + 1) := by rw [hm, pathG_at hs i (by omega)]; rfl
    rw [hpg]
    refine follow_up hs hon m hm d (i + 1) _ (by omega) fun j hj => ?_
    rw [get_put _ _ _ _ (by omega) (by omega) (by omega)]
    by_cases e : i = j
    · subst e; rw [if_pos rfl, if_pos (by omega)]
    · rw [if_neg (by omega), hp j hj]
      by_cases hlt : j < i
      · rw [if_pos hlt, if_pos (by omega)]
      · rw [if_neg hlt, if_neg (by omega)]
omit h in
theorem stays_on {s : Nat} (hon : isOn t.Roster s = true) (hst : ent (nextT t b).t.Roster s = ent t.Roster s) : isOn (nextT t b).t.Roster s = true := by
  unfold isOn at hon ⊢; rw [hst]; exact hon
theorem followM_stays {s : Nat} (hs : s < 64) (hon : isOn t.Roster s = true) (hst : ent (nextT t b).t.Roster s = ent t.Roster s) (who x : Int) :
    followM (withB (standAt t who s) x) (msgOf t b) = (withB (standAt (nextT t b).t who s) x, 0) := by
  obtain ⟨hg, _, _, _, _, _⟩ := nextT_ok h
  have hep := nx_epoch h
  have hon' := stays_on hon hst
  have hl := leafAt_on hg hs hon
  have hl' := leafAt_on (nx_good h) hs hon'
  have he := goodE_iff.1 (roster_on (goodTree_iff.1 hg).2.2.2.2.2.1 hs hon).1
  have hsn := ((goodTree_iff.1 hg).2.2.2.2.2.2.2 s hs).2.1
  have ha : ahead (withB (standAt t who s) x).Leaf 1 = (keyN (nextT t b).t (leaf s), 0) := by
    show ahead (leafAt (ent t.Roster s) t.Epoch).1 1 = _
    rw [keyN_leaf _ hs, hl, hl', hst]
    unfold ahead
    rw [if_pos (good_iff.2 ⟨by simp only; omega, by simp only; omega, by simp only; omega, by simp only; omega⟩), if_pos ⟨by omega, by simp only; omega⟩]
    simp only [Prod.mk.injEq, Key.mk.injEq, true_and, and_true]
    omega
  unfold followM
  rw [ha]
  have hup := follow_up h hs hon' (withB (standAt t who s) x) rfl 3 0 (pathK t s) rfl fun j hj => by
    rw [if_neg (by omega), pathK, get_make _ _ (by omega) (by omega), Int.toNat_natCast]
  have hup2 : upP (followStep (withB (standAt t who s) x) (msgOf t b)) (withB (standAt t who s) x).Slot 3 0 (withB (standAt t who s) x).Path (leaf (withB (standAt t who s) x).Slot) (keyN (nextT t b).t (leaf s)) = (pathK (nextT t b).t s, 0) := hup
  simp only [decide_true, cond_true, hup2]
  show ((⟨_, _, _, _, _, _, _, _⟩ : Member), (0 : Int)) = (⟨_, _, _, _, _, _, _, _⟩, 0)
  rw [keyN_leaf _ hs]
  rfl
theorem enter_up {s : Nat} (hs : s < 64) (hj : ∃ x ∈ (nextT t b).joined, x.Slot = s) (hon : isOn (nextT t b).t.Roster s = true) (m : Member) (hm : m.Slot = s) (hml : m.Leaf = keyN (nextT t b).t (leaf s)) : ∀ (d i : Nat) (p : Path), i + d = 3 → (∀ j : Nat, j < i → Arr.get p (j : Int) = keyN (nextT t b).t (pathAt s j)) →
    upP (enterStep m (msgOf t b)) m.Slot d i p (belowAt s i) (keyN (nextT t b).t (belowAt s i)) = (pathK (nextT t b).t s, 0)
  | 0, i, p, hi, hp => by
    have : i = 3 := by omega
    subst this
    simp only [upP]
    congr 1
    refine arr_ext fun j h0 h1 => ?_
    obtain ⟨k, rfl⟩ := Int.eq_ofNat_of_zero_le h0
    obtain ⟨v, hv, hv2, _⟩ := path_at hs k (by omega)
    rw [hp k (by omega), pathK, get_make _ _ h0 h1, Int.toNat_natCast, hv, keyN_inner _ hv2]
  | d + 1, i, p, hi, hp => by
    obtain ⟨v, hv, hv2, _⟩ := path_at hs i (by omega)
    have hgl := good_leafK (nx_good h) hs hon
    have hst : enterStep m (msgOf t b) p (i : Int) (belowAt s i) (keyN (nextT t b).t (belowAt s i)) = (keyN (nextT t b).t (pathAt s i), 0) := by
      unfold enterStep
      rw [hm, pathG_at hs i (by omega), hml]
      cases hin : inB (replaced (nextT t b).left) (pathAt (s : Int) i) with
      | true =>
        have hup := msg_up h hs hon i (by omega) hin
        by_cases hi0 : i = 0
        · subst hi0
          have : openI (msgOf t b) (pathAt s 0) (leaf s) (keyN (nextT t b).t (leaf s)) = (keyN (nextT t b).t (pathAt s 0), 0) := hup
          rw [this]; rfl
        · have hno : firstB (msgOf t b) (pathAt s i) (leaf s) = none := find_no fun x hx h1 h2 => by
            rcases items_mem.1 hx with ⟨w, hw, _, j, hj4, _, rfl⟩ | ⟨x', hx', j, hj3, hnin, rfl⟩
            · have e1 : (w : Int) = pathAt s i := h1
              have e2 : child w j = leaf s := h2
              rw [leaf_in hs] at e2
              unfold child at e2
              rw [if_pos ⟨by omega, by omega, by omega, by omega⟩] at e2
              have : pathAt (s : Int) i ≤ 4 := by
                unfold pathAt
                rw [if_neg hi0]
                split <;> omega
              omega
            · have e1 : Arr.get (pathG x'.Slot) (j : Int) = pathAt s i := h1
              rw [e1, hin] at hnin; cases hnin
          unfold openI at hup ⊢
          rw [hno]
          simpa using hup
      | false =>
        obtain ⟨x, hx, hxs⟩ := hj
        have hmem : itemOf (nextT t b).t (pathAt s i) (leaf s) ∈ (msgOf t b).Items := items_mem.2 (.inr ⟨x, hx, i, by omega, by rw [hxs, pathG_at hs i (by omega)]; exact hin, by rw [hxs, pathG_at hs i (by omega)]⟩)
        have : openI (msgOf t b) (pathAt s i) (leaf s) (keyN (nextT t b).t (leaf s)) = (keyN (nextT t b).t (pathAt s i), 0) := by
          unfold openI
          rw [msg_find hmem]
          exact open_item (by rw [hv]; exact good_inner (nx_good h) hv2) hgl
        rw [this]; rfl
    simp only [upP, hst, decide_true, cond_true]
    have hpg : Arr.get (pathG m.Slot) (i : Int) = belowAt s (i + 1) := by rw [hm, pathG_at hs i (by omega)]; rfl
    rw [hpg]
    refine enter_up hs hj hon m hm hml d (i + 1) _ (by omega) fun j hj2 => ?_
    rw [get_put _ _ _ _ (by omega) (by omega) (by omega)]
    by_cases e : i = j
    · subst e; rw [if_pos rfl]
    · rw [if_neg (by omega), hp j (by omega)]
theorem enterM_joins {s : Nat} (hs : s < 64) (hj : ∃ x ∈ (nextT t b).joined, x.Slot = s) (hon : isOn (nextT t b).t.Roster s = true) (who : Int) :
    enterM (bareOf (standAt (nextT t b).t who s)) (msgOf t b) = (standAt (nextT t b).t who s, 0) := by
  have hup := enter_up h hs hj hon (bareOf (standAt (nextT t b).t who s)) rfl (keyN_leaf _ hs).symm 3 0 zeroP rfl fun j hj => by omega
  have hup2 : upP (enterStep (bareOf (standAt (nextT t b).t who s)) (msgOf t b)) (bareOf (standAt (nextT t b).t who s)).Slot 3 0 (bareOf (standAt (nextT t b).t who s)).Path (leaf (bareOf (standAt (nextT t b).t who s)).Slot) (bareOf (standAt (nextT t b).t who s)).Leaf = (pathK (nextT t b).t s, 0) := by
    rw [← hup]
    show upP _ _ 3 0 zeroP (leaf s) (leafAt (ent (nextT t b).t.Roster s) (nextT t b).t.Epoch).1 = upP _ _ 3 0 zeroP (leaf s) (keyN (nextT t b).t (leaf s))
    rw [keyN_leaf _ hs]
  unfold enterM
  simp only [hup2, decide_true, cond_true]
  rfl

/-! ### The message is right -/
omit h in
theorem on_child {v : Int} (hb : belowR (nextT t b).t.Roster v = true) (hv : 21 ≤ v) (hv2 : v < 85) : ∃ s : Nat, s < 64 ∧ v = leaf s ∧ isOn (nextT t b).t.Roster s = true := by
  obtain ⟨s, hs, hb⟩ := anyN_iff.1 hb
  simp only [Bool.and_eq_true] at hb
  obtain ⟨k, hk⟩ := Int.eq_ofNat_of_zero_le (show 0 ≤ v - 21 by omega)
  have hvk : v = ((21 + k : Nat) : Int) := by omega
  have := allN_iff.1 (allN_iff.1 below_leaf k (by omega)) s hs
  simp only [decide_eq_true_eq] at this
  rw [hvk, this] at hb
  simp only [decide_eq_true_eq] at hb
  obtain ⟨h1, rfl⟩ := hb
  exact ⟨k, hs, by rw [leaf_in hs]; omega, h1⟩
theorem good_child {v : Nat} {i : Nat} (hv : v < 21) (hi : i < 4) (hb : belowR (nextT t b).t.Roster (child v i) = true) : good (keyN (nextT t b).t (child v i)) = true := by
  have hc : child v i = ((4 * v + 1 + i : Nat) : Int) := by unfold child; rw [if_pos ⟨by omega, by omega, by omega, by omega⟩]; omega
  by_cases hlt : 4 * v + 1 + i < 21
  · rw [hc]; exact good_inner (nx_good h) hlt
  · obtain ⟨s, hs, he, hon⟩ := on_child hb (by omega) (by omega)
    rw [he]; exact good_leafK (nx_good h) hs hon
theorem joined_on {x : Co.Seat} (hx : x ∈ (nextT t b).joined) : ∃ s : Nat, s < 64 ∧ x.Slot = s ∧ isOn (nextT t b).t.Roster s = true ∧ (ent (nextT t b).t.Roster s).Who = x.Who ∧ (ent (nextT t b).t.Roster s).Since = t.Epoch + 1 := by
  obtain ⟨i, s, a1, a2, hs, a3, a4, _⟩ := nx_joined_at h hx
  have := nx_room h
  exact ⟨s, hs, a3, isOn_iff.2 (by rw [a4]; simp only; omega), by rw [a4], by rw [a4]⟩
omit h in
theorem child_below : allN 21 (fun v => allN 4 fun i => below v (child v i) && !decide (child v i = v)) = true := by decide +kernel
theorem goodItem_msg {x : Co.Item} (hx : x ∈ items (nextT t b).t (nextT t b).left (nextT t b).joined) : goodItem x = true := by
  rcases items_mem.1 hx with ⟨v, hv, _, i, hi, hb, rfl⟩ | ⟨s', hs', i, hi, _, rfl⟩
  · have h1 := good_child h hv hi hb
    have h2 := allN_iff.1 (allN_iff.1 child_below v hv) i hi
    simp only [Bool.and_eq_true, Bool.not_eq_true', decide_eq_false_iff_not] at h2
    have h3 : betw (v : Int) 0 20 = true := betw_iff.2 (by omega)
    have h4 : good (keyN (nextT t b).t v) = true := good_inner (nx_good h) hv
    unfold goodItem itemOf goodBox
    simp only [h3, h2.1, h2.2, decide_false, Bool.not_false, Bool.true_and]
    rw [show good (ofT (nextT t b).t (child v i)).1 = true from h1, show good (ofT (nextT t b).t (v : Int)).1 = true from h4]; rfl
  · obtain ⟨s, hs, he, hon, _⟩ := joined_on h hs'
    obtain ⟨v, hv, hv2, _, _, hb⟩ := path_at hs i hi
    have h1 := good_leafK (nx_good h) hs hon
    have h3 : betw (v : Int) 0 20 = true := betw_iff.2 (by omega)
    have h4 : good (keyN (nextT t b).t v) = true := good_inner (nx_good h) hv2
    have h5 : ¬ leaf (s : Int) = (v : Int) := by rw [leaf_in hs]; omega
    rw [hv] at hb
    unfold goodItem itemOf goodBox
    rw [he, pathG_at hs i hi, hv]
    simp only [h3, hb, h5, decide_false, Bool.not_false, Bool.true_and]
    rw [show good (ofT (nextT t b).t (leaf (s : Int))).1 = true from h1, show good (ofT (nextT t b).t (v : Int)).1 = true from h4]; rfl
theorem left_at {x : Co.Seat} (hx : x ∈ (nextT t b).left) : x.Who ∈ b.Leaves ∧ ∃ s : Nat, s < 64 ∧ x.Slot = s ∧ isOn t.Roster s = true ∧ (ent t.Roster s).Who = x.Who := by
  rw [nx_left h] at hx
  obtain ⟨w, hw, rfl⟩ := List.mem_map.1 hx
  obtain ⟨s, hs, he, hon, hwho⟩ := (nx_leaves h).2 w hw
  exact ⟨hw, s, hs, he, hon, hwho⟩
theorem left_of {w : Int} (hw : w ∈ b.Leaves) : ∃ x ∈ (nextT t b).left, x.Who = w := by
  rw [nx_left h]
  exact ⟨_, List.mem_map.2 ⟨w, hw, rfl⟩, rfl⟩
omit h in
theorem joinItems_len (n : Tree) (m s : Int) : (joinItems n m s).length ≤ 3 := by
  unfold joinItems
  rw [List.length_map]
  have := List.length_filter_le (fun (i : Nat) => !inB m (Arr.get (pathG s) (i : Int))) (List.range 3)
  simpa using this
omit h in
theorem flat_len (n : Tree) (m : Int) : ∀ l : List Co.Seat, (l.flatMap fun s => joinItems n m s.Slot).length ≤ 3 * l.length
  | [] => by simp
  | s :: l => by
    have := joinItems_len n m s.Slot
    have := flat_len n m l
    simp only [List.flatMap_cons, List.length_append, List.length_cons]; omega
theorem items_len : (msgOf t b).Items.length ≤ 276 := by
  have h1 := itemsUp_len (nextT t b).t (replaced (nextT t b).left) 21
  have h2 := flat_len (nextT t b).t (replaced (nextT t b).left) (nextT t b).joined
  have h3 := nextT_joined h
  show (items _ _ _).length ≤ 276
  unfold items
  rw [List.length_append]; omega
theorem goodRekey_msg : goodRekey (msgOf t b) = true := by
  have hep := nx_epoch h
  have hlen := nextT_joined h
  obtain ⟨hg, _, hfi, _, _, _⟩ := nextT_ok h
  have h1 : betw (msgOf t b).Epoch 1 200 = true := betw_iff.2 (by show 1 ≤ (nextT t b).t.Epoch ∧ (nextT t b).t.Epoch ≤ 200; omega)
  have h2 : goodSeats (msgOf t b).Leaves = true := by
    unfold goodSeats
    rw [Bool.and_eq_true]
    refine ⟨List.all_eq_true.2 fun x hx => ?_, by simp only [decide_eq_true_eq]; show (nextT t b).left.length ≤ 64; omega⟩
    obtain ⟨_, s, hs, e1, hon, e2⟩ := left_at h hx
    have := goodE_iff.1 (roster_on (goodTree_iff.1 hg).2.2.2.2.2.1 hs hon).1
    unfold goodSeat
    rw [betw_iff.2 (by omega), betw_iff.2 (by omega)]; rfl
  have h3 : goodSeats (msgOf t b).Joins = true := by
    unfold goodSeats
    rw [Bool.and_eq_true]
    refine ⟨List.all_eq_true.2 fun x hx => ?_, by simp only [decide_eq_true_eq]; show (nextT t b).joined.length ≤ 64; omega⟩
    obtain ⟨i, s, a1, a2, hs, a3, a4, _⟩ := nx_joined_at h hx
    have := (nx_joins h).2 x.Who (List.mem_of_getElem? a1)
    unfold goodSeat
    rw [betw_iff.2 (by omega), betw_iff.2 (by omega)]; rfl
  have h4 : decide ((msgOf t b).Items.length ≤ 1536) = true := decide_eq_true (by have := items_len h; omega)
  have h5 : (msgOf t b).Items.all goodItem = true := List.all_eq_true.2 fun x hx => goodItem_msg h hx
  unfold goodRekey
  rw [h1, h2, h3, h4, h5]; rfl

/-! ### The message at devices -/
omit h in
theorem kind_withB {s : Nat} (hg : goodTree t = true) (hs : s < 64) (hon : isOn t.Roster s = true) {x : Int} (hx : x = 0 ∨ t.Epoch + 1 ≤ x ∧ x ≤ 200) : kind (withB (standAt t (ent t.Roster s).Who s) x) = 3 := by
  have h1 : ¬ withB (standAt t (ent t.Roster s).Who s) x = zeroM := fun h => by
    have := congrArg Member.Has h
    simp [withB, standAt] at this
    cases this
  have hc : calmB (withB (standAt t (ent t.Roster s).Who s) x) = true := by
    show (decide (x = 0) || betw x (t.Epoch + 1) 200) = true
    rcases hx with h | h
    · simp [h]
    · simp [betw_iff.2 h]
  unfold kind
  rw [decide_eq_false h1, show cardOf (withB (standAt t (ent t.Roster s).Who s) x) = cardOf (standAt t (ent t.Roster s).Who s) from rfl, stand_card hg hs hon, hc]
  show (bif goodPath (pathK t s) then (3 : Int) else -1) = 3
  rw [path_good hg hs]; rfl
/-- Who stays follows. -/
theorem apply_stays {s : Nat} (hs : s < 64) (hon : isOn t.Roster s = true) (hst : ent (nextT t b).t.Roster s = ent t.Roster s) (hno : (ent t.Roster s).Who ∉ b.Leaves) {x : Int} (hx : x = 0 ∨ t.Epoch + 1 ≤ x ∧ x ≤ 200) :
    applyM (withB (standAt t (ent t.Roster s).Who s) x) (msgOf t b) = (withB (standAt (nextT t b).t (ent t.Roster s).Who s) (if x ≤ t.Epoch + 1 then 0 else x), 0) := by
  obtain ⟨hg, _, _, _, _, _⟩ := nextT_ok h
  have hep := nx_epoch h
  have hk := kind_withB hg hs hon hx
  have hre : (msgOf t b).Epoch = t.Epoch + 1 := hep.1
  have hme : (withB (standAt t (ent t.Roster s).Who s) x).Epoch = t.Epoch := rfl
  have hany : (msgOf t b).Leaves.any (fun y => decide (y.Who = (withB (standAt t (ent t.Roster s).Who s) x).Who)) = false := by
    refine List.any_eq_false.2 fun y hy => ?_
    simp only [decide_eq_true_eq]
    intro e
    have := (left_at h hy).1
    rw [e] at this
    exact hno this
  have hn : nextM (withB (standAt t (ent t.Roster s).Who s) x) (msgOf t b) = (withB (standAt (nextT t b).t (ent t.Roster s).Who s) x, 0) := by
    unfold nextM
    rw [hre, hme, decide_eq_false (by omega), hany]
    exact followM_stays h hs hon hst _ x
  unfold applyM
  rw [hk, goodRekey_msg h, hre, hme, hn]
  have c1 : decide (t.Epoch + 1 < t.Epoch) = false := decide_eq_false (by omega)
  have c2 : decide (t.Epoch + 1 = t.Epoch) = false := decide_eq_false (by omega)
  have c3 : decide (t.Epoch + 1 < t.Epoch + 1) = false := decide_eq_false (by omega)
  rw [c1, c2, c3]
  show ((calm (withB (standAt (nextT t b).t (ent t.Roster s).Who s) x)), (0 : Int)) = _
  congr 1
  have hb : (withB (standAt (nextT t b).t (ent t.Roster s).Who s) x).Behind = x := rfl
  have he : (withB (standAt (nextT t b).t (ent t.Roster s).Who s) x).Epoch = t.Epoch + 1 := hep.1
  rw [calm_eq, hb, he]
  by_cases hle : x ≤ t.Epoch + 1
  · rw [if_pos hle, if_pos hle]; rfl
  · rw [if_neg hle, if_neg hle]
/-- Who left is out. -/
theorem apply_left {s : Nat} (hs : s < 64) (hon : isOn t.Roster s = true) (hl : (ent t.Roster s).Who ∈ b.Leaves) {x : Int} (hx : x = 0 ∨ t.Epoch + 1 ≤ x ∧ x ≤ 200) :
    applyM (withB (standAt t (ent t.Roster s).Who s) x) (msgOf t b) = (outM (ent t.Roster s).Who (nextT t b).t.Epoch, 0) := by
  obtain ⟨hg, _, _, _, _, _⟩ := nextT_ok h
  have hep := nx_epoch h
  have hk := kind_withB hg hs hon hx
  have hre : (msgOf t b).Epoch = t.Epoch + 1 := hep.1
  have hme : (withB (standAt t (ent t.Roster s).Who s) x).Epoch = t.Epoch := rfl
  have hany : (msgOf t b).Leaves.any (fun y => decide (y.Who = (withB (standAt t (ent t.Roster s).Who s) x).Who)) = true := by
    obtain ⟨y, hy, he⟩ := left_of h hl
    exact List.any_eq_true.2 ⟨y, hy, decide_eq_true he⟩
  have hn : nextM (withB (standAt t (ent t.Roster s).Who s) x) (msgOf t b) = (outM (ent t.Roster s).Who (t.Epoch + 1), 0) := by
    unfold nextM
    rw [hre, hme, decide_eq_false (by omega), hany]
    rfl
  unfold applyM
  rw [hk, goodRekey_msg h, hre, hme, hn]
  have c1 : decide (t.Epoch + 1 < t.Epoch) = false := decide_eq_false (by omega)
  have c2 : decide (t.Epoch + 1 = t.Epoch) = false := decide_eq_false (by omega)
  have c3 : decide (t.Epoch + 1 < t.Epoch + 1) = false := decide_eq_false (by omega)
  rw [c1, c2, c3, hep.1]
  show ((calm (outM (ent t.Roster s).Who (t.Epoch + 1))), (0 : Int)) = _
  have hb : (outM (ent t.Roster s).Who (t.Epoch + 1)).Behind = 0 := rfl
  have he : (outM (ent t.Roster s).Who (t.Epoch + 1)).Epoch = t.Epoch + 1 := rfl
  rw [calm_eq, hb, he, if_pos (by omega)]
  rfl
/-- Who joined enters. -/
theorem apply_joins {s : Nat} (hs : s < 64) (hj : (⟨(ent (nextT t b).t.Roster s).Who, s⟩ : Co.Seat) ∈ (nextT t b).joined) :
    applyM (bareOf (standAt (nextT t b).t (ent (nextT t b).t.Roster s).Who s)) (msgOf t b) = (standAt (nextT t b).t (ent (nextT t b).t.Roster s).Who s, 0) := by
  have hep := nx_epoch h
  have hgn := nx_good h
  have hon : isOn (nextT t b).t.Roster s = true := by
    obtain ⟨k, hk, e1, hon, _⟩ := joined_on h hj
    have : k = s := by simp only at e1; omega
    rw [← this]; exact hon
  have hk := kind_bare hgn hs hon
  have hre : (msgOf t b).Epoch = (nextT t b).t.Epoch := rfl
  have hme : (bareOf (standAt (nextT t b).t (ent (nextT t b).t.Roster s).Who s)).Epoch = (nextT t b).t.Epoch := rfl
  have hany : (msgOf t b).Joins.any (fun y => decide ((⟨(bareOf (standAt (nextT t b).t (ent (nextT t b).t.Roster s).Who s)).Who, (bareOf (standAt (nextT t b).t (ent (nextT t b).t.Roster s).Who s)).Slot⟩ : Co.Seat) = y)) = true :=
    List.any_eq_true.2 ⟨_, hj, decide_eq_true rfl⟩
  have hn : nextM (bareOf (standAt (nextT t b).t (ent (nextT t b).t.Roster s).Who s)) (msgOf t b) = (standAt (nextT t b).t (ent (nextT t b).t.Roster s).Who s, 0) := by
    unfold nextM
    rw [hre, hme, decide_eq_true rfl, hany]
    exact enterM_joins h hs ⟨_, hj, rfl⟩ hon _
  unfold applyM
  rw [hk, goodRekey_msg h, hre, hme, hn]
  have c1 : decide ((nextT t b).t.Epoch < (nextT t b).t.Epoch) = false := decide_eq_false (by omega)
  have c3 : decide ((nextT t b).t.Epoch + 1 < (nextT t b).t.Epoch) = false := decide_eq_false (by omega)
  rw [c1, c3]
  show ((calm (standAt (nextT t b).t (ent (nextT t b).t.Roster s).Who s)), (0 : Int)) = _
  have hb : (standAt (nextT t b).t (ent (nextT t b).t.Roster s).Who s).Behind = 0 := rfl
  have he : (standAt (nextT t b).t (ent (nextT t b).t.Roster s).Who s).Epoch = t.Epoch + 1 := hep.1
  rw [calm_eq, hb, he, if_pos (by omega)]
  rfl
end
end Go.Co.N
