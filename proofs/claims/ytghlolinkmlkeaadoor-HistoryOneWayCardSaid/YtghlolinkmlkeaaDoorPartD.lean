/-
  Trees: the functions answer what they are to answer.
  Sets of slots, who may move: the reference's functions answer what they are to answer.
  Moves: the reference's function answers what it is to answer.
  Steps and their messages: the reference's functions answer what they are to answer.
  Words as sets of slots: the lowest bit, the word without it, the table that tells its place.
  What the functions of sets, rosters' batches and plans are to answer.
  What each function computes, printed by a program of my own (wip/tool) out of its run.
  What each function computes, printed by a program of my own (wip/tool) out of its run.
  What a step of the server does, told seat by seat and node by node; the new tree is right.
  Members, messages' parts, sealed texts: the functions answer what they are to answer; laws of chapter 17.
  Sealed texts; laws of chapter 17.
  Members: the functions answer what they are to answer.
  Members: what a message does to a device's state.
  What a step's message holds, and what it does to who stays, who joined, who left.
  What each function computes, printed by a program of my own (wip/tool) out of its run.
  Who stands at another tree of a row doesn't open it: DataApart.
  Members: the laws of chapter 15.
  Members: messages of a row of steps, in any order.
  Recovery: the functions answer what they are to answer.
  Recovery: the laws of chapter 16.
  How many slots a word of 64 has: by bytes.
  Sets, batches, plans: the small functions answer what they are to answer.
  Batches that fit: the program's function answers what the reference's does.
  Moves: the program's function answers what the reference's does.
  Plans: one step, its message, what it costs.
  Plans: the message's items.
  What a step's message costs.
  The names that a step gives: from the old Fresh on, each once.
  Who gets its new keys: what the law's helpers are to answer.
  What each function computes, printed by a program of my own (wip/tool) out of its run.
  Who stays and who joins gets all of its new keys.
  The law's helpers answer so; the law on who gets its new keys.
  A step's keys: which are new, which are advanced ones; what can be derived of keys and boxes.
  Who left derives none of the new keys; who joins derives none of the old ones.
  What the last functions of plans are to answer.
  What each function computes, printed by a program of my own (wip/tool) out of its run.
  Plans: when a batch is refused; the nodes above seats.
  Of which batch a tree came: the batch that two trees tell leads from the one to the other.
  slices.SortFunc over a row: what the program's own sort makes of it.
  What the functions of rows of trees are to answer.
  No conditions. Own text, for the claims about coterie.
-/
import Derived.Shelf.SlSortCmp.NoneTotal
import Derived.Test.YtghlolinkmlkeaaDoorPartC

section
namespace Go.Co.N
open Go Go.Co

/-! ### Right rosters, right trees -/
theorem isOn_iff {r : Roster} {s : Nat} : isOn r s = true ↔ (ent r s).Base ≠ 0 := by simp [isOn]
theorem roster_on {r : Roster} (h : goodRoster r = true) {s : Nat} (hs : s < 64) (hon : isOn r s = true) : goodE (ent r s) = true ∧ ∀ k, k < s → isOn r k = true → (ent r k).Who ≠ (ent r s).Who ∧ (ent r k).Base ≠ (ent r s).Base := by
  have hz : ¬ ent r s = zeroE := fun h => isOn_iff.1 hon (by rw [h])
  obtain ⟨h1, h2⟩ := (entOk_iff hz).1 (allN_iff.1 h s hs)
  exact ⟨h1, fun k hk hk2 => (h2 k hk).resolve_left (isOn_iff.1 hk2)⟩
theorem roster_off {r : Roster} (h : goodRoster r = true) {s : Nat} (hs : s < 64) (hon : ¬ isOn r s = true) : ent r s = zeroE :=
  (entOk_base (allN_iff.1 h s hs)).1 (Classical.not_not.1 fun hb => hon (isOn_iff.2 hb))
theorem roster_who {r : Roster} (h : goodRoster r = true) {s k : Nat} (hs : s < 64) (hk : k < 64) (h1 : isOn r s = true) (h2 : isOn r k = true) (he : (ent r s).Who = (ent r k).Who) : s = k := by
  rcases Nat.lt_trichotomy s k with hl | hl | hl
  · exact absurd he ((roster_on h hk h2).2 s hl h1).1
  · exact hl
  · exact absurd he.symm ((roster_on h hs h1).2 k hl h2).1
theorem roster_base {r : Roster} (h : goodRoster r = true) {s k : Nat} (hs : s < 64) (hk : k < 64) (h1 : isOn r s = true) (h2 : isOn r k = true) (he : (ent r s).Base = (ent r k).Base) : s = k := by
  rcases Nat.lt_trichotomy s k with hl | hl | hl
  · exact absurd he ((roster_on h hk h2).2 s hl h1).2
  · exact hl
  · exact absurd he.symm ((roster_on h hs h1).2 k hl h2).2
theorem leafAt_on {t : Tree} (h : goodTree t = true) {s : Nat} (hs : s < 64) (hon : isOn t.Roster s = true) : leafAt (ent t.Roster s) t.Epoch = (⟨(ent t.Roster s).Base, t.Epoch - (ent t.Roster s).Since⟩, 0) := by
  obtain ⟨h1, h2, _, _, _, h6, _, h8⟩ := goodTree_iff.1 h
  have hg := goodE_iff.1 (roster_on h6 hs hon).1
  have h9 := h8 s hs
  unfold leafAt
  rw [if_neg (by omega), if_neg (by omega), if_neg (by omega), if_neg (by omega)]
theorem leafAt_off {t : Tree} (h : goodTree t = true) {s : Nat} (hs : s < 64) (hon : ¬ isOn t.Roster s = true) : leafAt (ent t.Roster s) t.Epoch = (⟨0, 0⟩, 16) := by
  rw [roster_off (goodTree_iff.1 h).2.2.2.2.2.1 hs hon]; rfl
theorem chkT_0 {t : Tree} : chkT t = 0 ↔ goodTree t = true := by unfold chkT; cases goodTree t <;> simp
theorem chkR_0 {r : Roster} : chkR r = 0 ↔ goodRoster r = true := by unfold chkR; cases goodRoster r <;> simp
/-! ### The tree's check -/
def okV (t : Tree) (v : Nat) : Bool := decide (bas t.Keys v < t.Fresh) && decide (stp t.Keys v ≤ t.Epoch)
def okS (t : Tree) (s : Nat) : Bool := decide ((ent t.Roster s).Base < t.Fresh) && decide ((ent t.Roster s).Since ≤ t.Epoch) && allN 21 fun v => !decide (bas t.Keys v = (ent t.Roster s).Base)
theorem goodTree_eq (t : Tree) : goodTree t = (decide (0 ≤ t.Epoch) && decide (t.Epoch ≤ 200) && decide (22 ≤ t.Fresh) && decide (t.Fresh ≤ 32768) && goodKeys t.Keys && goodRoster t.Roster && allN 21 (okV t) && allN 64 (okS t)) := rfl
theorem chkT_bad {t : Tree} (h : ¬ goodTree t = true) : chkT t = 31 := by unfold chkT; rw [Bool.eq_false_iff.2 h]; rfl
theorem eq_keytree_Check : Eqs c_keytree_Check g_keytree_Check := Eqs.tot fun (t, _) _ => by
  change Tree at t
  simp only [g_keytree_Check]
  by_cases p1 : t.Epoch < 0
  · rw [chkT_bad fun h => by have := (goodTree_iff.1 h).1; omega]; simp [p1]
  by_cases p2 : 200 < t.Epoch
  · rw [chkT_bad fun h => by have := (goodTree_iff.1 h).2.1; omega]; simp [p1, p2]
  by_cases p3 : t.Fresh ≤ 21
  · rw [chkT_bad fun h => by have := (goodTree_iff.1 h).2.2.1; omega]; simp [p1, p2, p3]
  by_cases p4 : 32768 < t.Fresh
  · rw [chkT_bad fun h => by have := (goodTree_iff.1 h).2.2.2.1; omega]; simp [p1, p2, p3, p4]
  by_cases p5 : goodKeys t.Keys = true
  case neg => rw [chkT_bad fun h => p5 (goodTree_iff.1 h).2.2.2.2.1]; simp [p1, p2, p3, p4, chk_0, p5]
  by_cases p6 : goodRoster t.Roster = true
  case neg => rw [chkT_bad fun h => p6 (goodTree_iff.1 h).2.2.2.2.2.1]; simp [p1, p2, p3, p4, chk_0, p5, chkR_0, p6]
  have hg : chkT t = bif allN 21 (okV t) && allN 64 (okS t) then 0 else 31 := by
    unfold chkT
    rw [goodTree_eq, decide_eq_true (show 0 ≤ t.Epoch by omega), decide_eq_true (show t.Epoch ≤ 200 by omega), decide_eq_true (show 22 ≤ t.Fresh by omega), decide_eq_true (show t.Fresh ≤ 32768 by omega), p5, p6]; rfl
  rw [hg]
  simp only [p1, p2, p3, p4, chk_0, p5, chkR_0, p6, decide_false, decide_true, Bool.not_true, cond_false]
  rw [lfp_all' (fun i => (((), (), t.Keys, (i : Int), ()), (t, ()), cmap (fun j => bas t.Keys j) i, ())) 21 (okV t) (.inl ((31, ()), (), ())) (.inr (((), (), ()), (t, ()), cmap (fun j => bas t.Keys j) 21, ())) (by rfl)
    (fun i hi hok => by
      have h1 : (i : Int) < 21 := by omega
      have hc := cmap_succ (fun j => bas t.Keys j) i (by omega)
      have hok : (Arr.get t.Keys (i : Int)).Base < t.Fresh ∧ (Arr.get t.Keys (i : Int)).Step ≤ t.Epoch := by simpa [okV] using hok
      have q1 : ¬ t.Fresh ≤ (Arr.get t.Keys (i : Int)).Base := by omega
      have q2 : ¬ t.Epoch < (Arr.get t.Keys (i : Int)).Step := by omega
      simp only [bas] at hc ⊢
      simp only [g_keytree_Check_r1, h1, decide_true, cond_true, Int.natCast_nonneg, Bool.and_self, q1, q2, decide_false, cond_false, hc, wrap1 i (by omega)])
    (fun i hi hok => by
      have h1 : (i : Int) < 21 := by omega
      simp only [g_keytree_Check_r1, h1, decide_true, cond_true, Int.natCast_nonneg, Bool.and_self]
      by_cases q1 : t.Fresh ≤ (Arr.get t.Keys (i : Int)).Base
      · simp [q1]
      · have q2 : t.Epoch < (Arr.get t.Keys (i : Int)).Step := by
          have q3 : (Arr.get t.Keys (i : Int)).Base < t.Fresh := by omega
          simp [okV, q3] at hok; exact hok
        simp [q1, q2])
    (by simp [g_keytree_Check_r1])]
  cases h21 : allN 21 (okV t) with
  | false => rfl
  | true =>
    simp only [cond_true, Option.bind_some, Sum.elim_inr, Bool.true_and]
    rw [lfp_all' (fun i => (((), (), t.Roster, (i : Int), ()), (t, ()), cmap (fun j => bas t.Keys j) 21, ())) 64 (okS t) (.inl ((31, ()), (), ())) (.inr ((), (), ())) (by rfl)
      (fun i hi hok => by
        have h1 : (i : Int) < 64 := by omega
        have hok : ((Arr.get t.Roster (i : Int)).Base < t.Fresh ∧ (Arr.get t.Roster (i : Int)).Since ≤ t.Epoch) ∧ ∀ v : Nat, v < 21 → ¬ bas t.Keys (v : Int) = (Arr.get t.Roster (i : Int)).Base := by simpa [okS, allN_iff] using hok
        have hm := (cmap_get (fun j => bas t.Keys j) (Arr.get t.Roster (i : Int)).Base 21).2.2.2 hok.2
        have q1 : ¬ t.Fresh ≤ (Arr.get t.Roster (i : Int)).Base := by omega
        have q2 : ¬ t.Epoch < (Arr.get t.Roster (i : Int)).Since := by omega
        simp only [g_keytree_Check_r2, h1, decide_true, cond_true, Int.natCast_nonneg, Bool.and_self, hm, q1, q2, Int.lt_irrefl, decide_false, cond_false, wrap1 i (by omega)])
      (fun i hi hok => by
        have h1 : (i : Int) < 64 := by omega
        simp only [g_keytree_Check_r2, h1, decide_true, cond_true, Int.natCast_nonneg, Bool.and_self]
        have hm := cmap_get (fun j => bas t.Keys j) (Arr.get t.Roster (i : Int)).Base 21
        by_cases q0 : 0 < (mget (cmap (fun j => bas t.Keys j) 21) (Arr.get t.Roster (i : Int)).Base).getD 0
        · simp [q0]
        by_cases q1 : t.Fresh ≤ (Arr.get t.Roster (i : Int)).Base
        · simp [q0, q1]
        by_cases q2 : t.Epoch < (Arr.get t.Roster (i : Int)).Since
        · simp [q0, q1, q2]
        · exfalso
          have hall := hm.2.2.1 (by omega)
          have : okS t i = true := by
            have e1 : (Arr.get t.Roster (i : Int)).Base < t.Fresh := by omega
            have e2 : (Arr.get t.Roster (i : Int)).Since ≤ t.Epoch := by omega
            have e3 : allN 21 (fun v => !decide (bas t.Keys v = (Arr.get t.Roster (i : Int)).Base)) = true := allN_iff.2 fun v hv => by simpa using hall v hv
            simp only [okS, ent, e1, e2, e3, decide_true, Bool.and_self]
          rw [this] at hok; cases hok)
      (by simp [g_keytree_Check_r2])]
    cases allN 64 (okS t) <;> rfl
/-! ### Keys of nodes -/
theorem eq_ref11_Of : Eqs c_ref11_Of g_ref11_Of := Eqs.tot fun (t, v, _) _ => by
  change Tree at t
  change Int at v
  simp only [g_ref11_Of, ofT]
  cases hv : node v with
  | false => simp
  | true =>
    have h := node_iff.1 hv
    by_cases h2 : v < 21
    · simp [h2, h.1]
    · rw [i64_in _ (by omega)]
      have e1 : 0 ≤ v - 21 := by omega
      have e2 : v - 21 < 64 := by omega
      simp only [h2, e1, e2, ent, decide_true, decide_false, Bool.not_true, cond_true, cond_false, Bool.and_self]
theorem pathAt_in {s : Int} (h0 : 0 ≤ s) (h1 : s < 64) (i : Nat) : 0 ≤ pathAt s i ∧ pathAt s i < 21 := by
  unfold pathAt
  by_cases a : i = 0
  · rw [if_pos a]; omega
  · rw [if_neg a]
    by_cases b : i = 1
    · rw [if_pos b]; omega
    · rw [if_neg b]; omega
theorem pathN_get (s : Int) (i : Nat) (h : i < 3) : Arr.get (pathN s) (i : Int) = pathAt s i := by rw [pathN, get_make _ _ (by omega) (by omega)]; simp
theorem get_fill_self {n : Nat} {α : Type} [Inhabited α] (z : α) (g : Nat → α) (i : Nat) (h : i < n) : Arr.get (fillTo z g i : Arr n α) (i : Int) = z := by
  rw [fillTo, get_make _ _ (by omega) (by omega), if_neg (by omega)]
theorem eq_keytree_Start : Eqs c_keytree_Start g_keytree_Start := Eqs.tot fun _ _ => by
  simp only [g_keytree_Start]
  rw [lfp_run' (fun i => (((), (), (i : Int), ()), (St.zero St.tree, ⟨0, 22, fillTo St.key.zero (fun v => ⟨v + 1, 0⟩) i, Vector.replicate 64 St.entry.zero⟩, ()), ())) 21 (by rw [fill_0]; rfl) fun i hi => by
    have h1 : (i : Int) < 21 := by omega
    simp only [g_keytree_Start_r1, h1, decide_true, cond_true, Int.natCast_nonneg, Bool.and_self, wrap1 i (by omega), get_fill_self _ _ i hi]
    rw [← fill_put _ _ _ hi]; rfl]
  rw [lfp_inr (z := (((), (), ()), (St.zero St.tree, startT, ()), ())) (by simp [g_keytree_Start_r1, fill_n, startT])]
  simp
/-! ### The laws of chapter 11 -/
theorem ofT_inner (t : Tree) {v : Nat} (h : v < 21) : ofT t v = (Arr.get t.Keys (v : Int), 0) := by
  have h1 : node v = true := node_iff.2 (by omega)
  have h2 : (v : Int) < 21 := by omega
  simp [ofT, h1, h2]
theorem ofT_leaf (t : Tree) {s : Nat} (h : s < 64) : ofT t ((21 + s : Nat) : Int) = leafAt (ent t.Roster s) t.Epoch := by
  have h1 : node ((21 + s : Nat) : Int) = true := node_iff.2 (by omega)
  have h2 : ¬ ((21 + s : Nat) : Int) < 21 := by omega
  have h3 : ((21 + s : Nat) : Int) - 21 = (s : Int) := by omega
  simp only [ofT, h1, h2, decide_false, cond_true, cond_false, h3]
/-- A node that has a key: which one, within which bounds. -/
theorem ofT_ok {t : Tree} (hg : goodTree t = true) {v : Nat} (hv : v < 85) (h : (ofT t v).2 = 0) : good (ofT t v).1 = true ∧ (ofT t v).1.Base < t.Fresh ∧ (ofT t v).1.Step ≤ t.Epoch ∧
    ((v < 21 ∧ (ofT t v).1 = Arr.get t.Keys (v : Int)) ∨ (∃ s, v = 21 + s ∧ s < 64 ∧ isOn t.Roster s = true ∧ (ofT t v).1 = ⟨(ent t.Roster s).Base, t.Epoch - (ent t.Roster s).Since⟩)) := by
  obtain ⟨g1, g2, g3, g4, g5, g6, g7, g8⟩ := goodTree_iff.1 hg
  by_cases h2 : v < 21
  · have hk := goodKeys_iff.1 g5 v h2
    have := g7 v h2
    rw [ofT_inner t h2]
    exact ⟨hk.1, this.1, this.2, .inl ⟨h2, rfl⟩⟩
  · obtain ⟨s, rfl⟩ := Nat.exists_eq_add_of_le (show 21 ≤ v by omega)
    have hs : s < 64 := by omega
    rw [ofT_leaf t hs] at h ⊢
    by_cases hon : isOn t.Roster s = true
    · have hl := leafAt_on hg hs hon
      have he := goodE_iff.1 (roster_on g6 hs hon).1
      have := g8 s hs
      rw [hl]
      exact ⟨good_iff.2 ⟨by simp only; omega, by simp only; omega, by simp only; omega, by simp only; omega⟩, this.1, by simp only; omega, .inr ⟨s, rfl, hs, hon, rfl⟩⟩
    · rw [leafAt_off hg hs hon] at h; simp at h
theorem ofT_names {t : Tree} (hg : goodTree t = true) {v w : Nat} (hv : v < 85) (hw : w < v) (h1 : (ofT t v).2 = 0) (h2 : (ofT t w).2 = 0) : (ofT t w).1.Base ≠ (ofT t v).1.Base := by
  obtain ⟨g1, g2, g3, g4, g5, g6, g7, g8⟩ := goodTree_iff.1 hg
  obtain ⟨_, _, _, a⟩ := ofT_ok hg hv h1
  obtain ⟨_, _, _, b⟩ := ofT_ok hg (show w < 85 by omega) h2
  rcases a with ⟨a1, a2⟩ | ⟨s, a1, a2, a3, a4⟩
  · rcases b with ⟨b1, b2⟩ | ⟨k, b1, b2, b3, b4⟩
    · rw [a2, b2]; exact (goodKeys_iff.1 g5 v a1).2.2 w hw
    · omega
  · rcases b with ⟨b1, b2⟩ | ⟨k, b1, b2, b3, b4⟩
    · rw [a4, b2]; exact (g8 s a2).2.2 w b1
    · rw [a4, b4]; exact ((roster_on g6 a2 a3).2 k (by omega) b3).2
theorem below_leaf : allN 64 (fun k => allN 64 fun s => decide (below ((21 + k : Nat) : Int) (leaf s) = decide (k = s))) = true := by decide +kernel
end Go.Co.N
end

section
namespace Go.Co.N
open Go Go.Co

/-! ### Loops over lists -/
section
variable {X Z A α : Type} [Inhabited α] {f : X → Option (X ⊕ Z)}
def foldE (step : A → α → A ⊕ Z) (fin : A → Z) : List α → A → Z
  | [], a => fin a
  | x :: xs, a => match step a x with
    | .inl a' => foldE step fin xs a'
    | .inr z => z
theorem lat_drop {xs : List α} {i : Nat} {x : α} {r : List α} (h : xs.drop i = x :: r) : i < xs.length ∧ lat xs (i : Int) = x ∧ xs.drop (i + 1) = r := by
  have hl : i < xs.length := by
    have := congrArg List.length h
    simp at this; omega
  refine ⟨hl, ?_, ?_⟩
  · rw [lat_nat xs i hl]
    have := List.drop_eq_getElem_cons hl
    rw [this] at h; cases h; rfl
  · have := List.drop_eq_getElem_cons hl
    rw [this] at h; cases h; rfl
theorem lfp_list (xs : List α) (S : Nat → A → X) (step : A → α → A ⊕ Z) (Inv : Nat → List α → A → Prop) (fin : A → Z)
    (h1 : ∀ i x r a, xs.drop i = x :: r → i < xs.length → lat xs (i : Int) = x → Inv i (x :: r) a → (∀ a', step a x = .inl a' → Inv (i + 1) r a') ∧ f (S i a) = some (match step a x with | .inl a' => .inl (S (i + 1) a') | .inr z => .inr z))
    (h2 : ∀ a, Inv xs.length [] a → f (S xs.length a) = some (.inr (fin a))) :
    ∀ (todo : List α) (i : Nat) (a : A), xs.drop i = todo → i ≤ xs.length → Inv i todo a → lfp f (S i a) = some (foldE step fin todo a) := by
  intro todo
  induction todo with
  | nil =>
    intro i a hd hle ha
    have : i = xs.length := by
      have := congrArg List.length hd
      simp at this; omega
    subst this
    exact lfp_inr (h2 a ha)
  | cons x r ih =>
    intro i a hd hle ha
    obtain ⟨hl, hx, hr⟩ := lat_drop hd
    obtain ⟨k1, k2⟩ := h1 i x r a hd hl hx ha
    simp only [foldE]
    cases hs : step a x with
    | inl a' =>
      rw [hs] at k2
      rw [lfp_inl k2]
      exact ih (i + 1) a' hr (by omega) (k1 a' hs)
    | inr z => rw [hs] at k2; exact lfp_inr k2
end

/-! ### Sets of slots -/
theorem word_congr {p q : Nat → Bool} : ∀ n, (∀ i, i < n → p i = q i) → word p n = word q n
  | 0, _ => rfl
  | n + 1, h => by simp only [word]; rw [word_congr n fun i hi => h i (by omega), h n (by omega)]
/-! ### Who may move -/
theorem personE_0 {r : Roster} {l : List Int} {w : Int} {leaves : Bool} : personE r l leaves w = 0 ↔ 0 ≤ w ∧ w < 256 ∧ w ∉ l ∧ (0 ≤ findR r w ↔ leaves = true) := by
  unfold personE
  by_cases h1 : 0 ≤ w
  · by_cases h2 : w < 256
    · by_cases h3 : w ∈ l
      · simp [h1, h2, h3]
      · cases leaves <;> by_cases h4 : 0 ≤ findR r w <;> simp [h1, h2, h3, h4]
    · simp [h1, h2]
  · simp [h1]
/-- The seen behind a list that has no error. -/
def askSeen (l seen : List Int) : List Int := l.reverse ++ seen
theorem askL_0 {r : Roster} {leaves : Bool} : ∀ {l seen : List Int}, askL r leaves l seen = 0 → (∀ w ∈ l, 0 ≤ w ∧ w < 256 ∧ w ∉ seen ∧ (0 ≤ findR r w ↔ leaves = true)) ∧ l.Nodup
  | [], _, _ => by simp
  | w :: l, seen, h => by
    simp only [askL] at h
    by_cases hp : personE r seen leaves w = 0
    · simp only [hp, decide_true, cond_true] at h
      obtain ⟨h1, h2⟩ := askL_0 h
      have hw := personE_0.1 hp
      refine ⟨fun x hx => ?_, ?_⟩
      · rcases List.mem_cons.1 hx with rfl | hx
        · exact hw
        · have := h1 x hx
          exact ⟨this.1, this.2.1, fun hn => this.2.2.1 (List.mem_cons_of_mem _ hn), this.2.2.2⟩
      · exact List.nodup_cons.2 ⟨fun hx => (h1 w hx).2.2.1 (List.mem_cons_self ..), h2⟩
    · simp only [hp, decide_false, cond_false] at h
theorem askL_iff {r : Roster} {leaves : Bool} : ∀ {l seen : List Int}, askL r leaves l seen = 0 ↔ (∀ w ∈ l, 0 ≤ w ∧ w < 256 ∧ w ∉ seen ∧ (0 ≤ findR r w ↔ leaves = true)) ∧ l.Nodup
  | [], _ => by simp [askL]
  | w :: l, seen => by
    refine ⟨askL_0, fun ⟨h1, h2⟩ => ?_⟩
    obtain ⟨h3, h4⟩ := List.nodup_cons.1 h2
    have hp : personE r seen leaves w = 0 := personE_0.2 (h1 w (List.mem_cons_self ..))
    simp only [askL, hp, decide_true, cond_true]
    refine askL_iff.2 ⟨fun x hx => ?_, h4⟩
    have := h1 x (List.mem_cons_of_mem _ hx)
    refine ⟨this.1, this.2.1, fun hn => ?_, this.2.2.2⟩
    rcases List.mem_cons.1 hn with rfl | hn
    · exact h3 hx
    · exact this.2.2.1 hn
theorem nodup_le : ∀ (n : Nat) (l : List Int), l.Nodup → (∀ x ∈ l, 0 ≤ x ∧ x < n) → l.length ≤ n
  | 0, l, _, h => by
    cases l with
    | nil => simp
    | cons a l => have := h a (List.mem_cons_self ..); omega
  | n + 1, l, hn, h => by
    by_cases hm : (n : Int) ∈ l
    · have h1 := List.length_erase_of_mem hm
      have h2 := nodup_le n (l.erase (n : Int)) (hn.erase _) fun x hx => by
        have hx' := (List.Nodup.mem_erase_iff hn).1 hx
        have := h x hx'.2
        have : x ≠ (n : Int) := hx'.1
        omega
      have : 0 < l.length := List.length_pos_of_mem hm
      omega
    · have := nodup_le n l hn fun x hx => by
        have h1 := h x hx
        have : x ≠ (n : Int) := fun e => hm (e ▸ hx)
        omega
      omega
theorem askL_len {r : Roster} {leaves : Bool} {l seen : List Int} (h : askL r leaves l seen = 0) : l.length ≤ 256 :=
  nodup_le 256 l (askL_0 h).2 fun x hx => ⟨((askL_0 h).1 x hx).1, ((askL_0 h).1 x hx).2.1⟩
theorem wrap1' {i n : Nat} (h : i < n) (hn : n ≤ 9223372036854775807) : IntKind.i64.wrap ((i : Int) + 1) = ((i + 1 : Nat) : Int) := by rw [i64_in _ (by omega)]; omega
theorem fine_li {l : List Int} (h : Fine (.list .i) l) : l.length * 8 ≤ 140737488355328 := (Fine.list.1 h).1
theorem fine_batch {b : Batch} : Fine (.st .batch) b ↔ Fine (.list .i) b.Leaves ∧ Fine (.list .i) b.Joins := by
  rw [Fine.st]
  show Fine (.prod (.list .i) (.prod (.list .i) .unit)) (b.Leaves, b.Joins, ()) ↔ _
  rw [Fine.prod, Fine.prod, Fine.unit]; simp
theorem cntW_le (s : Int) : 0 ≤ cntW s ∧ cntW s ≤ 64 := by
  unfold cntW
  have := List.length_filter_le (bitI s) (List.range 64)
  simp at this; omega
theorem fits_ok {r : Roster} {b : Batch} (h : fits r b = 0) : goodRoster r = true ∧ askL r true b.Leaves [] = 0 ∧ askL r false b.Joins b.Leaves = 0 ∧ (b.Joins.length : Int) ≤ 64 - cntW (taken r) + b.Leaves.length := by
  unfold fits at h
  cases hg : goodRoster r with
  | false => rw [hg] at h; simp at h
  | true =>
    rw [hg] at h
    by_cases h1 : askL r true b.Leaves [] = 0
    · by_cases h2 : askL r false b.Joins b.Leaves = 0
      · by_cases h3 : (b.Joins.length : Int) ≤ 64 - cntW (taken r) + b.Leaves.length
        · exact ⟨rfl, h1, h2, h3⟩
        · simp [h1, h2, h3] at h
      · simp [h1, h2] at h
    · simp [h1] at h
end Go.Co.N
end

section
namespace Go.Co.N
open Go Go.Co

/-! ### Counting -/
def cntP (p : Nat → Bool) : Nat → Nat
  | 0 => 0
  | n + 1 => cntP p n + (bif p n then 1 else 0)
theorem cntP_congr {p q : Nat → Bool} : ∀ n, (∀ i, i < n → p i = q i) → cntP p n = cntP q n
  | 0, _ => rfl
  | n + 1, h => by simp only [cntP]; rw [cntP_congr n fun i hi => h i (by omega), h n (by omega)]
theorem cntP_le (p : Nat → Bool) : ∀ n, cntP p n ≤ n
  | 0 => Nat.le_refl _
  | n + 1 => by have := cntP_le p n; simp only [cntP]; cases p n <;> simp <;> omega
theorem cntP_not (p : Nat → Bool) : ∀ n, cntP p n + cntP (fun i => !p i) n = n
  | 0 => rfl
  | n + 1 => by have := cntP_not p n; simp only [cntP]; cases p n <;> simp <;> omega
theorem cntP_change {p q : Nat → Bool} (s : Nat) : ∀ n, (∀ i, i < n → i ≠ s → p i = q i) → cntP p n ≤ cntP q n + 1
  | 0, _ => by simp [cntP]
  | n + 1, h => by
    simp only [cntP]
    by_cases hs : n = s
    · rw [cntP_congr n fun i hi => h i (by omega) (by omega)]
      cases p n <;> cases q n <;> simp <;> omega
    · rw [h n (by omega) hs]
      have := cntP_change s n fun i hi hne => h i (by omega) hne
      cases q n <;> simp <;> omega
theorem cntP_up {p q : Nat → Bool} (s : Nat) (hp : p s = false) (hq : q s = true) : ∀ n, s < n → (∀ i, i < n → i ≠ s → p i = q i) → cntP q n = cntP p n + 1
  | 0, h, _ => by omega
  | n + 1, hs, h => by
    simp only [cntP]
    by_cases he : n = s
    · subst he
      rw [cntP_congr n fun i hi => h i (by omega) (by omega), hp, hq]; simp
    · rw [h n (by omega) he, cntP_up s hp hq n (by omega) fun i hi hne => h i (by omega) hne]
      omega
theorem cntP_pos {p : Nat → Bool} : ∀ n, 0 < cntP p n → ∃ i, i < n ∧ p i = true
  | 0, h => by simp [cntP] at h
  | n + 1, h => by
    simp only [cntP] at h
    cases hp : p n with
    | true => exact ⟨n, by omega, hp⟩
    | false =>
      rw [hp] at h
      obtain ⟨i, hi, hpi⟩ := cntP_pos n (by simpa using h)
      exact ⟨i, by omega, hpi⟩
theorem filter_cnt (p : Nat → Bool) : ∀ n, ((List.range n).filter p).length = cntP p n
  | 0 => rfl
  | n + 1 => by
    rw [List.range_succ, List.filter_append, List.length_append, filter_cnt p n]
    simp only [cntP]
    cases hp : p n <;> simp [hp]
theorem bitI_word (p : Nat → Bool) (n i : Nat) : bitI ((word p n : Nat) : Int) i = (decide (i < n) && p i) := by
  rw [← word_bit p n i]
  unfold bitI
  rw [Nat.testBit_eq_decide_div_mod_eq]
  congr 1
  rw [show (((word p n : Nat) : Int) / 2 ^ i) = ((word p n / 2 ^ i : Nat) : Int) by simp]
  simp only [eq_iff_iff]; omega
/-- How many seats are free. -/
def freeN (r : Roster) : Nat := cntP (fun s => !isOn r s) 64
theorem cntW_taken (r : Roster) : cntW (taken r) = 64 - (freeN r : Int) := by
  unfold cntW taken freeN
  rw [filter_cnt, cntP_congr 64 fun i hi => bitI_word (isOn r) 64 i, cntP_congr (q := isOn r) 64 fun i hi => by simp [hi]]
  have := cntP_not (isOn r) 64
  omega
theorem freeN_le (r : Roster) : freeN r ≤ 64 := cntP_le _ _

/-! ### Rosters that change -/
theorem ent_put (r : Roster) {s : Nat} (hs : s < 64) (e : Entry) (k : Nat) : ent (Arr.put r (s : Int) e) (k : Int) = if s = k then e else ent r (k : Int) := by
  rw [ent, get_put _ _ _ _ (by omega) (by omega) (by omega)]
  by_cases h : s = k
  · subst h; simp
  · have : ¬ (s : Int) = (k : Int) := by omega
    simp [h, this]
theorem isOn_put (r : Roster) {s : Nat} (hs : s < 64) (e : Entry) (k : Nat) : isOn (Arr.put r (s : Int) e) k = if s = k then !decide (e.Base = 0) else isOn r k := by
  unfold isOn
  rw [ent_put r hs]
  split <;> rfl
theorem fstN_congr {p q : Nat → Bool} : ∀ (d i : Nat), (∀ k, i ≤ k → k < i + d → p k = q k) → fstN d p i = fstN d q i
  | 0, _, _ => rfl
  | d + 1, i, h => by
    simp only [fstN]
    rw [h i (by omega) (by omega), fstN_congr d (i + 1) fun k h1 h2 => h k (by omega) (by omega)]
theorem findR_put {r : Roster} {s : Nat} (hs : s < 64) {w : Int} (hw : (ent r s).Who ≠ w) {e : Entry} (he : e.Base = 0 ∨ e.Who ≠ w) : findR (Arr.put r (s : Int) e) w = findR r w := by
  have : fstN 64 (fun k => isOn (Arr.put r (s : Int) e) k && decide ((ent (Arr.put r (s : Int) e) k).Who = w)) 0 = fstN 64 (fun k => isOn r k && decide ((ent r k).Who = w)) 0 := fstN_congr 64 0 fun k _ _ => by
    rw [isOn_put r hs, ent_put r hs]
    by_cases h : s = k
    · subst h
      rcases he with he | he
      · simp [he, hw]
      · simp [he, hw]
    · simp [h]
  unfold findR
  rw [this]
theorem freeN_leave {r : Roster} {s : Nat} (hs : s < 64) (hon : isOn r s = true) : freeN (Arr.put r (s : Int) zeroE) = freeN r + 1 := by
  unfold freeN
  refine cntP_up s (by simp [hon]) (by rw [isOn_put r hs]; simp) 64 hs fun i _ hne => ?_
  rw [isOn_put r hs, if_neg (fun h => hne h.symm)]
theorem freeN_join (r : Roster) {s : Nat} (hs : s < 64) (e : Entry) : freeN r ≤ freeN (Arr.put r (s : Int) e) + 1 := by
  unfold freeN
  refine cntP_change s 64 fun i _ hne => ?_
  rw [isOn_put r hs, if_neg (fun h => hne h.symm)]
theorem lowFree_ok {r : Roster} (h : 0 < freeN r) : ∃ s : Nat, s < 64 ∧ lowFree r = s ∧ isOn r s = false ∧ ∀ k, k < s → isOn r k = true := by
  obtain ⟨i, hi, hp⟩ := cntP_pos 64 h
  unfold lowFree
  cases hf : fstN 64 (fun s => !isOn r s) 0 with
  | none =>
    have := fstN_none hf i (by omega) (by omega)
    rw [this] at hp; cases hp
  | some s =>
    obtain ⟨_, h2, h3, h4⟩ := fstN_some hf
    exact ⟨s, by omega, rfl, by simpa using h3, fun k hk => by simpa using h4 k (by omega) hk⟩
theorem leaveGo_len : ∀ (l : List Int) (r : Roster), (leaveGo l r).2.length = l.length
  | [], _ => rfl
  | w :: l, r => by simp [leaveGo, leaveGo_len l]
theorem joinGo_len (since : Int) : ∀ (l : List Int) (b : Int) (r : Roster), (joinGo since l b r).2.length = l.length
  | [], _, _ => rfl
  | w :: l, b, r => by simp [joinGo, joinGo_len since l]
/-- Leavers that are on, each once. -/
def canLeave (r : Roster) (l : List Int) : Prop := (∀ w ∈ l, 0 ≤ findR r w) ∧ l.Nodup
theorem canLeave_next {r : Roster} {w : Int} {l : List Int} (h : canLeave r (w :: l)) : ∃ s : Nat, s < 64 ∧ findR r w = s ∧ isOn r s = true ∧ (ent r s).Who = w ∧ canLeave (Arr.put r (s : Int) zeroE) l := by
  obtain ⟨h1, h2⟩ := h
  obtain ⟨h3, h4⟩ := List.nodup_cons.1 h2
  obtain ⟨s, hs, he, hon, hw, _⟩ := findR_some (h1 w (List.mem_cons_self ..))
  refine ⟨s, hs, he, hon, hw, fun x hx => ?_, h4⟩
  have hne : x ≠ w := fun e => h3 (e ▸ hx)
  rw [findR_put hs (by rw [hw]; exact fun e => hne e.symm) (.inl rfl)]
  exact h1 x (List.mem_cons_of_mem _ hx)
theorem canLeave_free : ∀ {l : List Int} {r : Roster}, canLeave r l → freeN (leaveGo l r).1 = freeN r + l.length
  | [], r, _ => rfl
  | w :: l, r, h => by
    obtain ⟨s, hs, he, hon, _, hn⟩ := canLeave_next h
    simp only [leaveGo, he]
    rw [canLeave_free hn, freeN_leave hs hon]
    simp only [List.length_cons]; omega
theorem canLeave_of {r : Roster} {l : List Int} (h : askL r true l [] = 0) : canLeave r l :=
  ⟨fun w hw => (((askL_0 h).1 w hw).2.2.2).2 rfl, (askL_0 h).2⟩
theorem move_room {r : Roster} {b : Batch} (h : fits r b = 0) : b.Joins.length ≤ freeN (leaveGo b.Leaves r).1 ∧ b.Joins.length ≤ 64 ∧ b.Leaves.length ≤ 64 := by
  obtain ⟨_, h2, _, h4⟩ := fits_ok h
  have hf := canLeave_free (canLeave_of h2)
  have hl := freeN_le (leaveGo b.Leaves r).1
  rw [cntW_taken] at h4
  omega
theorem fine_seat_list {l : List Co.Seat} (h : Fine (.list (.st .seat)) l) : l.length * 16 ≤ 140737488355328 := (Fine.list.1 h).1

/-! ### The move itself -/
theorem leave_fold {Z : Type} (fin : List Co.Seat × Roster → Z) : ∀ (l : List Int) (acc : List Co.Seat) (r : Roster),
    foldE (fun (a : List Co.Seat × Roster) w => (Sum.inl (a.1 ++ [⟨w, findR a.2 w⟩], Arr.put a.2 (findR a.2 w) zeroE) : (List Co.Seat × Roster) ⊕ Z)) fin l (acc, r) = fin (acc ++ (leaveGo l r).2, (leaveGo l r).1)
  | [], acc, r => by simp [foldE, leaveGo]
  | w :: l, acc, r => by
    simp only [foldE, leaveGo]
    rw [leave_fold fin l]
    simp
section
variable {r : Roster} {b : Batch} {since base : Int}
end
end Go.Co.N
end

section
namespace Go.Co.N
open Go Go.Co

/-! ### Replaced nodes -/
def hitB (l : List Co.Seat) (v : Nat) : Bool := l.any fun s => below v (leaf s.Slot)
theorem replaced_eq (l : List Co.Seat) : replaced l = ((word (hitB l) 21 : Nat) : Int) := rfl
/-! ### Steps -/
theorem turn_fresh {k : Keys} {m f : Int} (h : (turn k m f).2.2 = 0) : (turn k m f).2.1 = f + cntTo m 21 := by rw [(turn_ok h).2.2.2.2]
theorem move_joined {r : Roster} {b : Batch} {since base : Int} (h : (move r b since base).e = 0) : (move r b since base) = moveGo r b since base ∧ fits r b = 0 ∧ (1 ≤ since ∧ since ≤ 200) ∧ namesFree r base b.Joins.length = true := by
  unfold move at h ⊢
  by_cases h0 : fits r b = 0
  · by_cases h1 : 1 ≤ since ∧ since ≤ 200
    · have h1' : (decide (1 ≤ since) && decide (since ≤ 200)) = true := by simp [h1.1, h1.2]
      cases h2 : namesFree r base b.Joins.length with
      | true => simp only [h0, h1', decide_true, cond_true]; exact ⟨trivial, trivial, h1, trivial⟩
      | false => simp [h0, h1', h2] at h
    · have h1' : (decide (1 ≤ since) && decide (since ≤ 200)) = false := by
        apply Bool.eq_false_iff.2; intro h; exact h1 (by simpa using h)
      simp [h0, h1'] at h
  · simp [h0] at h
/-! ### Messages -/
/-- The items of the first i children. -/
def kidItems (t : Tree) (v i : Nat) : List Co.Item := ((List.range i).filter fun (i : Nat) => belowR t.Roster (child v i)).map fun (i : Nat) => itemOf t v (child v i)
theorem kidItems_succ (t : Tree) (v i : Nat) : kidItems t v (i + 1) = kidItems t v i ++ (bif belowR t.Roster (child v i) then [itemOf t v (child v i)] else []) := by
  unfold kidItems
  rw [List.range_succ, List.filter_append, List.map_append]
  cases h : belowR t.Roster (child v i) <;> simp [h]
theorem kidItems_len (t : Tree) (v i : Nat) : (kidItems t v i).length ≤ i := by
  unfold kidItems
  have := List.length_filter_le (fun (i : Nat) => belowR t.Roster (child v i)) (List.range i)
  simpa using this
theorem nodeItems_len (t : Tree) (m : Int) (v : Nat) : (nodeItems t m v).length ≤ 4 := by
  unfold nodeItems
  cases inB m v with
  | false => simp
  | true => exact kidItems_len t v 4
def legItems (t : Tree) (m s : Int) (i : Nat) : List Co.Item := ((List.range i).filter fun (i : Nat) => !inB m (Arr.get (pathG s) (i : Int))).map fun (i : Nat) => itemOf t (Arr.get (pathG s) (i : Int)) (leaf s)
theorem legItems_succ (t : Tree) (m s : Int) (i : Nat) : legItems t m s (i + 1) = legItems t m s i ++ (bif !inB m (Arr.get (pathG s) (i : Int)) then [itemOf t (Arr.get (pathG s) (i : Int)) (leaf s)] else []) := by
  unfold legItems
  rw [List.range_succ, List.filter_append, List.map_append]
  cases h : inB m (Arr.get (pathG s) (i : Int)) <;> simp [h]
theorem legItems_len (t : Tree) (m s : Int) (i : Nat) : (legItems t m s i).length ≤ i := by
  unfold legItems
  have := List.length_filter_le (fun (i : Nat) => !inB m (Arr.get (pathG s) (i : Int))) (List.range i)
  simpa using this
theorem join_items_fold {Z : Type} (t : Tree) (m : Int) (fin : List Co.Item → Z) : ∀ (l : List Co.Seat) (acc : List Co.Item),
    foldE (fun (a : List Co.Item) (s : Co.Seat) => (Sum.inl (a ++ joinItems t m s.Slot) : List Co.Item ⊕ Z)) fin l acc = fin (acc ++ l.flatMap fun s => joinItems t m s.Slot)
  | [], acc => by simp [foldE]
  | s :: l, acc => by
    simp only [foldE]
    rw [join_items_fold t m fin l]
    simp
theorem itemsUp_len (t : Tree) (m : Int) : ∀ n, (itemsUp t m n).length ≤ 4 * n
  | 0 => by simp [itemsUp]
  | n + 1 => by
    have h1 := itemsUp_len t m n
    have h2 := nodeItems_len t m n
    simp only [itemsUp, List.length_append]; omega
theorem nextT_ok {t : Tree} {b : Batch} (h : (nextT t b).e = 0) : goodTree t = true ∧ t.Epoch < 200 ∧ fits t.Roster b = 0 ∧ (stepTurn t b).2.2 = 0 ∧ (stepMove t b).e = 0 ∧
    nextT t b = ⟨⟨t.Epoch + 1, (stepTurn t b).2.1 + b.Joins.length, (stepTurn t b).1, (stepMove t b).r⟩, (stepMove t b).left, (stepMove t b).joined, 0⟩ := by
  by_cases hg : goodTree t = true
  case neg => simp [nextT, hg] at h
  by_cases he : t.Epoch = 200
  · simp [nextT, hg, he] at h
  by_cases hfi : fits t.Roster b = 0
  case neg => simp [nextT, hg, he, hfi] at h
  by_cases ht : (stepTurn t b).2.2 = 0
  case neg => simp [nextT, hg, he, hfi, ht] at h
  by_cases hm : (stepMove t b).e = 0
  case neg => simp [nextT, hg, he, hfi, ht, hm] at h
  have hjl : (stepMove t b).joined.length = b.Joins.length := by
    have := (move_joined hm).1
    unfold stepMove
    rw [this, moveGo]
    exact joinGo_len _ _ _ _
  refine ⟨hg, by have := (goodTree_iff.1 hg).2.1; omega, hfi, ht, hm, ?_⟩
  simp [nextT, hg, he, hfi, ht, hm, hjl]
theorem nextT_joined {t : Tree} {b : Batch} (h : (nextT t b).e = 0) : (nextT t b).joined.length = b.Joins.length ∧ (nextT t b).left.length = b.Leaves.length ∧ b.Joins.length ≤ 64 ∧ b.Leaves.length ≤ 64 := by
  obtain ⟨_, _, hfi, _, hm, he⟩ := nextT_ok h
  obtain ⟨_, h1, h2⟩ := move_room hfi
  have hmv := (move_joined hm).1
  rw [he]
  refine ⟨?_, ?_, h1, h2⟩
  · show (stepMove t b).joined.length = _
    unfold stepMove
    rw [hmv, moveGo]; exact joinGo_len _ _ _ _
  · show (stepMove t b).left.length = _
    unfold stepMove
    rw [hmv, moveGo]; exact leaveGo_len _ _
end Go.Co.N
end

section
namespace Go.Co.N
open Go Go.Co

/-! ### The lowest bit -/
theorem low_form : ∀ (d x : Nat), 0 < x → x < 2 ^ d → ∃ k m, k < d ∧ x = 2 ^ k * (2 * m + 1)
  | 0, x, h0, h1 => by simp at h1; omega
  | d + 1, x, h0, h1 => by
    by_cases ho : x % 2 = 1
    · exact ⟨0, x / 2, by omega, by simp; omega⟩
    · obtain ⟨k, m, hk, he⟩ := low_form d (x / 2) (by omega) (by rw [Nat.pow_succ] at h1; omega)
      exact ⟨k + 1, m, by omega, by rw [Nat.pow_succ, Nat.mul_assoc, Nat.mul_comm 2, ← Nat.mul_assoc, ← he]; omega⟩
theorem testBit_form (k m i : Nat) : (2 ^ k * (2 * m + 1)).testBit i = (decide (i = k) || (decide (k < i) && m.testBit (i - k - 1))) := by
  rw [Nat.testBit_two_pow_mul]
  by_cases h : i < k
  · have h1 : ¬ i = k := by omega
    have h2 : ¬ k < i := by omega
    have h3 : ¬ i ≥ k := by omega
    simp [h1, h2, h3]
  · by_cases he : i = k
    · subst he; simp
    · have h2 : k < i := by omega
      have h3 : i ≥ k := by omega
      obtain ⟨j, hj⟩ := Nat.exists_eq_add_of_lt h2
      have e1 : i - k = j + 1 := by omega
      simp only [h3, he, h2, e1, decide_true, decide_false, Bool.true_and, Bool.false_or]
      rw [Nat.testBit_succ]
      congr 1
      omega
theorem pred_form (k m : Nat) : 2 ^ k * (2 * m + 1) - 1 = 2 ^ k * (2 * m) + (2 ^ k - 1) := by
  have : 0 < 2 ^ k := Nat.pow_pos (by omega)
  rw [Nat.mul_add, Nat.mul_one]; omega
theorem and_pred_form (k m : Nat) : (2 ^ k * (2 * m + 1)) &&& (2 ^ k * (2 * m + 1) - 1) = 2 ^ k * (2 * m) := by
  have hp : 2 ^ k - 1 < 2 ^ k := by have : 0 < 2 ^ k := Nat.pow_pos (by omega); omega
  apply Nat.eq_of_testBit_eq
  intro i
  rw [Nat.testBit_and, pred_form, Nat.testBit_two_pow_mul_add _ hp, testBit_form, Nat.testBit_two_pow_mul]
  by_cases h : i < k
  · have h1 : ¬ i = k := by omega
    have h2 : ¬ k < i := by omega
    have h3 : ¬ i ≥ k := by omega
    simp [h1, h2, h3]
  · by_cases he : i = k
    · subst he; simp
    · have h2 : k < i := by omega
      have h3 : i ≥ k := by omega
      obtain ⟨j, hj⟩ := Nat.exists_eq_add_of_lt h2
      have e1 : i - k = j + 1 := by omega
      simp only [h, h3, he, h2, e1, decide_true, decide_false, Bool.true_and, Bool.false_or, if_false]
      rw [Nat.testBit_succ]
      have e2 : 2 * m / 2 = m := by omega
      have e3 : j + 1 - 1 = j := by omega
      rw [e2, e3]; simp
/-- The place of the lowest bit; 64 for none. -/
def tzN (x : Nat) : Nat := match fstN 64 (fun i => x.testBit i) 0 with | some i => i | none => 64
theorem tz_form {k m : Nat} (hk : k < 64) : tzN (2 ^ k * (2 * m + 1)) = k := by
  unfold tzN
  cases hf : fstN 64 (fun i => (2 ^ k * (2 * m + 1)).testBit i) 0 with
  | none =>
    have := fstN_none hf k (by omega) (by omega)
    rw [testBit_form] at this
    simp at this
  | some i =>
    obtain ⟨_, hi, hb, hl⟩ := fstN_some hf
    rw [testBit_form] at hb
    simp only
    by_cases h : k < i
    · have := hl k (by omega) h
      rw [testBit_form] at this
      simp at this
    · have h2 : ¬ k < i := h
      simpa [h2] using hb
/-- The slots of a word, rising. -/
def bitsL (x : Nat) : List Nat := (List.range 64).filter fun i => x.testBit i
theorem bitsL_form {k m : Nat} (hk : k < 64) : bitsL (2 ^ k * (2 * m + 1)) = k :: bitsL (2 ^ k * (2 * m)) := by
  unfold bitsL
  have hsplit : List.range 64 = List.range k ++ k :: (List.range (63 - k)).map (k + 1 + ·) := by
    have e1 : List.range 64 = List.range k ++ (List.range (64 - k)).map (k + ·) := by
      have := List.range_add (n := k) (m := 64 - k)
      rw [show k + (64 - k) = 64 by omega] at this
      exact this
    rw [e1, show 64 - k = (63 - k) + 1 by omega, List.range_succ_eq_map]
    simp only [List.map_cons, List.map_map, Nat.add_zero]
    congr 2
    refine List.map_congr_left fun i _ => ?_
    simp only [Function.comp]; omega
  rw [hsplit]
  simp only [List.filter_append, List.filter_cons]
  have h1 : (List.range k).filter (fun i => (2 ^ k * (2 * m + 1)).testBit i) = [] := by
    refine List.filter_eq_nil_iff.2 fun i hi => ?_
    have hi : i < k := by simpa using hi
    have a1 : ¬ i = k := by omega
    have a2 : ¬ k < i := by omega
    rw [testBit_form]; simp [a1, a2]
  have h2 : (List.range k).filter (fun i => (2 ^ k * (2 * m)).testBit i) = [] := by
    refine List.filter_eq_nil_iff.2 fun i hi => ?_
    have hi : i < k := by simpa using hi
    have a3 : ¬ i ≥ k := by omega
    rw [Nat.testBit_two_pow_mul]; simp [a3]
  have h3 : (2 ^ k * (2 * m + 1)).testBit k = true := by rw [testBit_form]; simp
  have h4 : (2 ^ k * (2 * m)).testBit k = false := by rw [Nat.testBit_two_pow_mul]; simp
  rw [h1, h2, h3, h4]
  simp only [List.nil_append, if_true, Bool.false_eq_true, if_false]
  congr 1
  refine List.filter_congr fun i hi => ?_
  obtain ⟨j, _, rfl⟩ := List.mem_map.1 hi
  rw [testBit_form, Nat.testBit_two_pow_mul]
  have a1 : ¬ k + 1 + j = k := by omega
  have a2 : k < k + 1 + j := by omega
  have a3 : k + 1 + j ≥ k := by omega
  have a4 : k + 1 + j - k = j + 1 := by omega
  have a5 : k + 1 + j - k - 1 = j := by omega
  simp only [a1, a2, a3, a4, decide_true, decide_false, Bool.false_or, Bool.true_and, a5, Nat.add_sub_cancel]
  rw [Nat.testBit_succ]
  congr 1; omega
theorem bitsL_zero : bitsL 0 = [] := by unfold bitsL; simp
/-- A word that isn't empty: its lowest slot, and the others. -/
theorem bitsL_cons {x : Nat} (h0 : 0 < x) (h1 : x < 2 ^ 64) : tzN x < 64 ∧ bitsL x = tzN x :: bitsL (x &&& (x - 1)) ∧ (x &&& (x - 1)) < x := by
  obtain ⟨k, m, hk, rfl⟩ := low_form 64 x h0 h1
  rw [tz_form hk, and_pred_form]
  refine ⟨hk, bitsL_form hk, ?_⟩
  have : 0 < 2 ^ k := Nat.pow_pos (by omega)
  rw [Nat.mul_add, Nat.mul_one]; omega

/-! ### The table -/
theorem neg_form {k m : Nat} (hk : k < 64) (h : 2 ^ k * (2 * m + 1) < 2 ^ 64) : (2 ^ k * (2 * m + 1)) &&& (2 ^ 64 - 2 ^ k * (2 * m + 1)) = 2 ^ k := by
  have hpk : 0 < 2 ^ k := Nat.pow_pos (by omega)
  have e64 : 2 ^ 64 = 2 ^ k * 2 ^ (64 - k) := by rw [← Nat.pow_add]; congr 1; omega
  have hm : 2 * m + 1 < 2 ^ (64 - k) := by
    rw [e64] at h
    exact Nat.lt_of_mul_lt_mul_left h
  have hev : ∃ q, 2 ^ (64 - k) = 2 * q := ⟨2 ^ (63 - k), by rw [show 64 - k = (63 - k) + 1 by omega, Nat.pow_succ, Nat.mul_comm]⟩
  obtain ⟨q, hq⟩ := hev
  have e1 : 2 ^ 64 - 2 ^ k * (2 * m + 1) = 2 ^ k * (2 * (q - m - 1) + 1) := by
    rw [e64, hq, ← Nat.mul_sub]
    congr 1; omega
  rw [e1]
  apply Nat.eq_of_testBit_eq
  intro i
  rw [Nat.testBit_and, testBit_form, testBit_form, Nat.testBit_two_pow]
  by_cases he : i = k
  · subst he; simp
  · have he' : ¬ k = i := fun e => he e.symm
    by_cases h2 : k < i
    · simp only [he, he', h2, decide_true, decide_false, Bool.false_or, Bool.true_and]
      have hmq : m < q := by omega
      have hq2 : q = 2 ^ (63 - k) := by
        have : 2 ^ (64 - k) = 2 * 2 ^ (63 - k) := by rw [show 64 - k = (63 - k) + 1 by omega, Nat.pow_succ, Nat.mul_comm]
        omega
      -- m and its complement
      have hc : q - m - 1 = 2 ^ (63 - k) - (m + 1) := by omega
      rw [hc, Nat.testBit_two_pow_sub_succ (by omega)]
      cases m.testBit (i - k - 1) <;> simp
    · simp [he, he', h2]
theorem tab_ok : ((List.range 64).all fun k => decide (tab64[(2 ^ k * 285870213051353865 % 2 ^ 64) / 288230376151711744]? = some k)) = true := by decide +kernel
theorem tab_at {k : Nat} (hk : k < 64) : tab64[(2 ^ k * 285870213051353865 % 2 ^ 64) / 288230376151711744]? = some k := by
  have := List.all_eq_true.1 tab_ok k (by simpa using hk)
  simpa using this
theorem tab_low {x : Nat} (h0 : 0 < x) (h1 : x < 2 ^ 64) : tab64[((x &&& (2 ^ 64 - x)) * 285870213051353865 % 2 ^ 64) / 288230376151711744]? = some (tzN x) := by
  obtain ⟨k, m, hk, rfl⟩ := low_form 64 x h0 h1
  rw [tz_form hk, neg_form hk h1]
  exact tab_at hk
end Go.Co.N
end

section
namespace Go.Co.N
open Go Go.Co

/-! ### Sets of slots -/
abbrev c_bits_OnesCount64 : Con := ⟨[.int .u64], [.i], fun x => some (cntW x.1, ())⟩
abbrev c_seats_Count : Con := ⟨[.int .u64], [.i], fun x => some (cntW x.1, ())⟩
def bitOf (s : Int) : Int := if 0 ≤ s ∧ s < 64 then ((2 ^ s.toNat : Nat) : Int) else 0
abbrev c_seats_bit : Con := ⟨[.i], [.int .u64], fun x => some (bitOf x.1, ())⟩
/-- A word with these slots. -/
def orL (s : Nat) (l : List Nat) : Nat := l.foldl (fun a i => a ||| 2 ^ i) s
/-- The free slots, rising. -/
def freeL (s : Int) : List Nat := (List.range 64).filter fun i => !bitI s i
def takeW (s n : Int) : List Int × Int × Int :=
  if n < 0 then ([], 0, 1) else if 64 - cntW s < n then ([], 0, 18) else
    (((freeL s).take n.toNat).map fun (i : Nat) => (i : Int), ((orL s.toNat ((freeL s).take n.toNat) : Nat) : Int), 0)
abbrev c_seats_Take : Con := ⟨[.int .u64, .i], [.list .i, .int .u64, .i], fun x => some ((takeW x.1 x.2.1).1, (takeW x.1 x.2.1).2.1, (takeW x.1 x.2.1).2.2, ())⟩
abbrev c_shape_Child : Con := ⟨[.i, .i], [.i], fun x => some (child x.1 x.2.1, ())⟩

/-! ### Batches -/
abbrev c_roster_Fits : Con := ⟨[.arr 64 (.st .entry), .st .batch], [.i], fun x => some (fits x.1 x.2.1, ())⟩
abbrev c_roster_names : Con := ⟨[.arr 64 (.st .entry), .i, .i], [.bool], fun x => guardK (decide (0 ≤ x.2.2.1) && decide (x.2.2.1 ≤ 64)) (some (namesFree x.1 x.2.1 x.2.2.1, ()))⟩
abbrev c_roster_Move : Con := ⟨[.arr 64 (.st .entry), .st .batch, .i, .i], [.arr 64 (.st .entry), .list (.st .seat), .list (.st .seat), .i],
  fun x => some ((move x.1 x.2.1 x.2.2.1 x.2.2.2.1).r, (move x.1 x.2.1 x.2.2.1 x.2.2.2.1).left, (move x.1 x.2.1 x.2.2.1 x.2.2.2.1).joined, (move x.1 x.2.1 x.2.2.1 x.2.2.2.1).e, ())⟩

/-! ### Plans -/
abbrev c_plan_leavers : Con := ⟨[.arr 64 (.st .entry), .list .i], [.list (.st .seat)], fun x => guardK (decide (List.length x.2.1 ≤ 64)) (some (goneOf x.1 x.2.1, ()))⟩
abbrev c_plan_step : Con := ⟨[.st .tree, .st .batch], [.st .tree, .st .rekey, .i],
  fun x => some ((nextT x.1 x.2.1).t, ⟨(nextT x.1 x.2.1).t.Epoch, (nextT x.1 x.2.1).left, (nextT x.1 x.2.1).joined, []⟩, (nextT x.1 x.2.1).e, ())⟩
def nodeK (t : Tree) (v : Int) : Key := bif decide (0 ≤ slot v) then (leafAt (Arr.get t.Roster (slot v)) t.Epoch).1 else Arr.get t.Keys v
abbrev c_plan_nodeKey : Con := ⟨[.st .tree, .i], [.st .key], fun x => guardK (betw x.2.1 0 84) (some (nodeK x.1 x.2.1, ()))⟩
/-- A right tree, and joiners that are on. -/
def calls (t : Tree) (m : Rekey) : Bool := goodTree t && decide (m.Joins.length ≤ 64) && m.Joins.all fun s => betw s.Slot 0 63 && isOn t.Roster s.Slot.toNat
abbrev c_plan_items : Con := ⟨[.st .tree, .st .rekey], [.list (.st .item)], fun x => guardK (calls x.1 x.2.1) (some (items x.1 x.2.1.Leaves x.2.1.Joins, ()))⟩
abbrev c_plan_Next : Con := ⟨[.st .tree, .st .batch], [.st .tree, .st .rekey, .i], fun x => some ((nextR x.1 x.2.1).1, (nextR x.1 x.2.1).2.1, (nextR x.1 x.2.1).2.2, ())⟩
/-! ### The laws of chapter 12 -/
end Go.Co.N
end

section
set_option maxRecDepth 100000
noncomputable section
namespace Go.Co.N
open Go Go.Co
/-- coterie/shape.Child -/
def g_shape_Child : Int × Int × Unit → Option (Int × Unit)
  | (a, b, _) => bif decide (a < 0) then some (-1, ()) else bif decide (21 ≤ a) then some (-1, ()) else bif decide (b < 0) then some (-1, ()) else bif decide (4 ≤ b) then some (-1, ()) else some (IntKind.wrap IntKind.i64 (IntKind.wrap IntKind.i64 (shlI IntKind.i64 a 2 + 1) + b), ())
/-- math/bits.OnesCount64 -/
def g_bits_OnesCount64 : Int × Unit → Option (Int × Unit)
  | (a, _) => some (bw BinOp.and IntKind.i64 (IntKind.wrap IntKind.i64 (IntKind.wrap IntKind.u64 (IntKind.wrap IntKind.u64 (IntKind.wrap IntKind.u64 (bw BinOp.and IntKind.u64 (IntKind.wrap IntKind.u64 (shrI IntKind.u64 (IntKind.wrap IntKind.u64 (bw BinOp.and IntKind.u64 (shrI IntKind.u64 (IntKind.wrap IntKind.u64 (bw BinOp.and IntKind.u64 (shrI IntKind.u64 a 1) 6148914691236517205 + bw BinOp.and IntKind.u64 a 6148914691236517205)) 2) 3689348814741910323 + bw BinOp.and IntKind.u64 (IntKind.wrap IntKind.u64 (bw BinOp.and IntKind.u64 (shrI IntKind.u64 a 1) 6148914691236517205 + bw BinOp.and IntKind.u64 a 6148914691236517205)) 3689348814741910323)) 4 + IntKind.wrap IntKind.u64 (bw BinOp.and IntKind.u64 (shrI IntKind.u64 (IntKind.wrap IntKind.u64 (bw BinOp.and IntKind.u64 (shrI IntKind.u64 a 1) 6148914691236517205 + bw BinOp.and IntKind.u64 a 6148914691236517205)) 2) 3689348814741910323 + bw BinOp.and IntKind.u64 (IntKind.wrap IntKind.u64 (bw BinOp.and IntKind.u64 (shrI IntKind.u64 a 1) 6148914691236517205 + bw BinOp.and IntKind.u64 a 6148914691236517205)) 3689348814741910323))) 1085102592571150095 + shrI IntKind.u64 (bw BinOp.and IntKind.u64 (IntKind.wrap IntKind.u64 (shrI IntKind.u64 (IntKind.wrap IntKind.u64 (bw BinOp.and IntKind.u64 (shrI IntKind.u64 (IntKind.wrap IntKind.u64 (bw BinOp.and IntKind.u64 (shrI IntKind.u64 a 1) 6148914691236517205 + bw BinOp.and IntKind.u64 a 6148914691236517205)) 2) 3689348814741910323 + bw BinOp.and IntKind.u64 (IntKind.wrap IntKind.u64 (bw BinOp.and IntKind.u64 (shrI IntKind.u64 a 1) 6148914691236517205 + bw BinOp.and IntKind.u64 a 6148914691236517205)) 3689348814741910323)) 4 + IntKind.wrap IntKind.u64 (bw BinOp.and IntKind.u64 (shrI IntKind.u64 (IntKind.wrap IntKind.u64 (bw BinOp.and IntKind.u64 (shrI IntKind.u64 a 1) 6148914691236517205 + bw BinOp.and IntKind.u64 a 6148914691236517205)) 2) 3689348814741910323 + bw BinOp.and IntKind.u64 (IntKind.wrap IntKind.u64 (bw BinOp.and IntKind.u64 (shrI IntKind.u64 a 1) 6148914691236517205 + bw BinOp.and IntKind.u64 a 6148914691236517205)) 3689348814741910323))) 1085102592571150095) 8) + shrI IntKind.u64 (IntKind.wrap IntKind.u64 (bw BinOp.and IntKind.u64 (IntKind.wrap IntKind.u64 (shrI IntKind.u64 (IntKind.wrap IntKind.u64 (bw BinOp.and IntKind.u64 (shrI IntKind.u64 (IntKind.wrap IntKind.u64 (bw BinOp.and IntKind.u64 (shrI IntKind.u64 a 1) 6148914691236517205 + bw BinOp.and IntKind.u64 a 6148914691236517205)) 2) 3689348814741910323 + bw BinOp.and IntKind.u64 (IntKind.wrap IntKind.u64 (bw BinOp.and IntKind.u64 (shrI IntKind.u64 a 1) 6148914691236517205 + bw BinOp.and IntKind.u64 a 6148914691236517205)) 3689348814741910323)) 4 + IntKind.wrap IntKind.u64 (bw BinOp.and IntKind.u64 (shrI IntKind.u64 (IntKind.wrap IntKind.u64 (bw BinOp.and IntKind.u64 (shrI IntKind.u64 a 1) 6148914691236517205 + bw BinOp.and IntKind.u64 a 6148914691236517205)) 2) 3689348814741910323 + bw BinOp.and IntKind.u64 (IntKind.wrap IntKind.u64 (bw BinOp.and IntKind.u64 (shrI IntKind.u64 a 1) 6148914691236517205 + bw BinOp.and IntKind.u64 a 6148914691236517205)) 3689348814741910323))) 1085102592571150095 + shrI IntKind.u64 (bw BinOp.and IntKind.u64 (IntKind.wrap IntKind.u64 (shrI IntKind.u64 (IntKind.wrap IntKind.u64 (bw BinOp.and IntKind.u64 (shrI IntKind.u64 (IntKind.wrap IntKind.u64 (bw BinOp.and IntKind.u64 (shrI IntKind.u64 a 1) 6148914691236517205 + bw BinOp.and IntKind.u64 a 6148914691236517205)) 2) 3689348814741910323 + bw BinOp.and IntKind.u64 (IntKind.wrap IntKind.u64 (bw BinOp.and IntKind.u64 (shrI IntKind.u64 a 1) 6148914691236517205 + bw BinOp.and IntKind.u64 a 6148914691236517205)) 3689348814741910323)) 4 + IntKind.wrap IntKind.u64 (bw BinOp.and IntKind.u64 (shrI IntKind.u64 (IntKind.wrap IntKind.u64 (bw BinOp.and IntKind.u64 (shrI IntKind.u64 a 1) 6148914691236517205 + bw BinOp.and IntKind.u64 a 6148914691236517205)) 2) 3689348814741910323 + bw BinOp.and IntKind.u64 (IntKind.wrap IntKind.u64 (bw BinOp.and IntKind.u64 (shrI IntKind.u64 a 1) 6148914691236517205 + bw BinOp.and IntKind.u64 a 6148914691236517205)) 3689348814741910323))) 1085102592571150095) 8)) 16) + shrI IntKind.u64 (IntKind.wrap IntKind.u64 (IntKind.wrap IntKind.u64 (bw BinOp.and IntKind.u64 (IntKind.wrap IntKind.u64 (shrI IntKind.u64 (IntKind.wrap IntKind.u64 (bw BinOp.and IntKind.u64 (shrI IntKind.u64 (IntKind.wrap IntKind.u64 (bw BinOp.and IntKind.u64 (shrI IntKind.u64 a 1) 6148914691236517205 + bw BinOp.and IntKind.u64 a 6148914691236517205)) 2) 3689348814741910323 + bw BinOp.and IntKind.u64 (IntKind.wrap IntKind.u64 (bw BinOp.and IntKind.u64 (shrI IntKind.u64 a 1) 6148914691236517205 + bw BinOp.and IntKind.u64 a 6148914691236517205)) 3689348814741910323)) 4 + IntKind.wrap IntKind.u64 (bw BinOp.and IntKind.u64 (shrI IntKind.u64 (IntKind.wrap IntKind.u64 (bw BinOp.and IntKind.u64 (shrI IntKind.u64 a 1) 6148914691236517205 + bw BinOp.and IntKind.u64 a 6148914691236517205)) 2) 3689348814741910323 + bw BinOp.and IntKind.u64 (IntKind.wrap IntKind.u64 (bw BinOp.and IntKind.u64 (shrI IntKind.u64 a 1) 6148914691236517205 + bw BinOp.and IntKind.u64 a 6148914691236517205)) 3689348814741910323))) 1085102592571150095 + shrI IntKind.u64 (bw BinOp.and IntKind.u64 (IntKind.wrap IntKind.u64 (shrI IntKind.u64 (IntKind.wrap IntKind.u64 (bw BinOp.and IntKind.u64 (shrI IntKind.u64 (IntKind.wrap IntKind.u64 (bw BinOp.and IntKind.u64 (shrI IntKind.u64 a 1) 6148914691236517205 + bw BinOp.and IntKind.u64 a 6148914691236517205)) 2) 3689348814741910323 + bw BinOp.and IntKind.u64 (IntKind.wrap IntKind.u64 (bw BinOp.and IntKind.u64 (shrI IntKind.u64 a 1) 6148914691236517205 + bw BinOp.and IntKind.u64 a 6148914691236517205)) 3689348814741910323)) 4 + IntKind.wrap IntKind.u64 (bw BinOp.and IntKind.u64 (shrI IntKind.u64 (IntKind.wrap IntKind.u64 (bw BinOp.and IntKind.u64 (shrI IntKind.u64 a 1) 6148914691236517205 + bw BinOp.and IntKind.u64 a 6148914691236517205)) 2) 3689348814741910323 + bw BinOp.and IntKind.u64 (IntKind.wrap IntKind.u64 (bw BinOp.and IntKind.u64 (shrI IntKind.u64 a 1) 6148914691236517205 + bw BinOp.and IntKind.u64 a 6148914691236517205)) 3689348814741910323))) 1085102592571150095) 8) + shrI IntKind.u64 (IntKind.wrap IntKind.u64 (bw BinOp.and IntKind.u64 (IntKind.wrap IntKind.u64 (shrI IntKind.u64 (IntKind.wrap IntKind.u64 (bw BinOp.and IntKind.u64 (shrI IntKind.u64 (IntKind.wrap IntKind.u64 (bw BinOp.and IntKind.u64 (shrI IntKind.u64 a 1) 6148914691236517205 + bw BinOp.and IntKind.u64 a 6148914691236517205)) 2) 3689348814741910323 + bw BinOp.and IntKind.u64 (IntKind.wrap IntKind.u64 (bw BinOp.and IntKind.u64 (shrI IntKind.u64 a 1) 6148914691236517205 + bw BinOp.and IntKind.u64 a 6148914691236517205)) 3689348814741910323)) 4 + IntKind.wrap IntKind.u64 (bw BinOp.and IntKind.u64 (shrI IntKind.u64 (IntKind.wrap IntKind.u64 (bw BinOp.and IntKind.u64 (shrI IntKind.u64 a 1) 6148914691236517205 + bw BinOp.and IntKind.u64 a 6148914691236517205)) 2) 3689348814741910323 + bw BinOp.and IntKind.u64 (IntKind.wrap IntKind.u64 (bw BinOp.and IntKind.u64 (shrI IntKind.u64 a 1) 6148914691236517205 + bw BinOp.and IntKind.u64 a 6148914691236517205)) 3689348814741910323))) 1085102592571150095 + shrI IntKind.u64 (bw BinOp.and IntKind.u64 (IntKind.wrap IntKind.u64 (shrI IntKind.u64 (IntKind.wrap IntKind.u64 (bw BinOp.and IntKind.u64 (shrI IntKind.u64 (IntKind.wrap IntKind.u64 (bw BinOp.and IntKind.u64 (shrI IntKind.u64 a 1) 6148914691236517205 + bw BinOp.and IntKind.u64 a 6148914691236517205)) 2) 3689348814741910323 + bw BinOp.and IntKind.u64 (IntKind.wrap IntKind.u64 (bw BinOp.and IntKind.u64 (shrI IntKind.u64 a 1) 6148914691236517205 + bw BinOp.and IntKind.u64 a 6148914691236517205)) 3689348814741910323)) 4 + IntKind.wrap IntKind.u64 (bw BinOp.and IntKind.u64 (shrI IntKind.u64 (IntKind.wrap IntKind.u64 (bw BinOp.and IntKind.u64 (shrI IntKind.u64 a 1) 6148914691236517205 + bw BinOp.and IntKind.u64 a 6148914691236517205)) 2) 3689348814741910323 + bw BinOp.and IntKind.u64 (IntKind.wrap IntKind.u64 (bw BinOp.and IntKind.u64 (shrI IntKind.u64 a 1) 6148914691236517205 + bw BinOp.and IntKind.u64 a 6148914691236517205)) 3689348814741910323))) 1085102592571150095) 8)) 16)) 32))) 127, ())
/-- coterie/seats.Count -/
def g_seats_Count : Int × Unit → Option (Int × Unit)
  | (a, _) => some (cntW a, ())
/-- coterie/seats.bit -/
def g_seats_bit : Int × Unit → Option (Int × Unit)
  | (a, _) => bif decide (a < 0) then some (0, ()) else bif decide (64 ≤ a) then some (0, ()) else some (shlI IntKind.u64 1 (IntKind.wrap IntKind.u64 a), ())
/-- coterie/plan.nodeKey -/
def g_plan_nodeKey : Tree × Int × Unit → Option (Key × Unit)
  | (a, b, _) => bif decide (0 ≤ slot b) then bif decide (0 ≤ slot b) && decide (slot b < 64) then some ((leafAt (Arr.get a.Roster (slot b)) a.Epoch).fst, ()) else none else bif decide (0 ≤ b) && decide (b < 21) then some (Arr.get a.Keys b, ()) else none
def g_plan_leavers_r1 : (Unit × List Seat × List Int × Int × Int × Unit) × (Vector Entry 64 × Unit) × Unit → Option (((Unit × List Seat × List Int × Int × Int × Unit) × (Vector Entry 64 × Unit) × Unit) ⊕ ((List Seat × Unit) × Unit × Unit))
  | ((_, a, b, c, d, _), (e, _), _) => bif decide (d < c) then bif decide (0 ≤ d) && decide (d < (↑(List.length b) : Int)) then bif decide ((List.length a + 1) * 16 ≤ 140737488355328) then some (Sum.inl (((), List.append a [Seat.mk (lat b d) (findR e (lat b d))], b, c, IntKind.wrap IntKind.i64 (d + 1), ()), (e, ()), ())) else none else none else some (Sum.inr ((a, ()), (), ()))
/-- coterie/plan.leavers -/
def g_plan_leavers : Vector Entry 64 × List Int × Unit → Option (List Seat × Unit)
  | (a, b, _) => Option.bind (lfp g_plan_leavers_r1 (((), [], b, (↑(List.length b) : Int), 0, ()), (a, ()), ())) fun z => some (z.fst.fst, ())
def g_roster_names_r1 : (Unit × Unit × Int × Int × Unit) × (Vector Entry 64 × Int × Int × Unit) × Unit → Option (((Unit × Unit × Int × Int × Unit) × (Vector Entry 64 × Int × Int × Unit) × Unit) ⊕ ((Int × Unit) × (Vector Entry 64 × Int × Int × Unit) × Unit ⊕ Unit × (Vector Entry 64 × Int × Int × Unit) × Unit))
  | ((_, _, a, b, _), (c, d, e, _), _) => bif decide (b < a) then bif decide (0 ≤ b) && decide (b < 64) then bif decide (d ≤ (Arr.get c b).Base) then bif decide ((Arr.get c b).Base < IntKind.wrap IntKind.i64 (d + e)) then some (Sum.inr (Sum.inl ((b, ()), (c, d, e, ()), ()))) else some (Sum.inl (((), (), a, IntKind.wrap IntKind.i64 (b + 1), ()), (c, d, e, ()), ())) else some (Sum.inl (((), (), a, IntKind.wrap IntKind.i64 (b + 1), ()), (c, d, e, ()), ())) else none else some (Sum.inr (Sum.inr ((), (c, d, e, ()), ())))
/-- coterie/roster.names -/
def g_roster_names : Vector Entry 64 × Int × Int × Unit → Option (Bool × Unit)
  | (a, b, c, _) => bif decide (c = 0) then some (true, ()) else bif decide (b < 1) then some (false, ()) else bif decide (IntKind.wrap IntKind.i64 (32768 - c) < b) then some (false, ()) else Option.bind (lfp g_roster_names_r1 (((), (), 64, 0, ()), (a, b, c, ()), ())) fun z => Sum.elim (fun x => some (!decide (0 ≤ x.fst.fst), ())) (fun _ => some (true, ())) z
def g_roster_Fits_r1 : (Bool × Int × Unit × Unit × List Int × Int × Int × Unit) × (Vector Entry 64 × Batch × Unit × Unit) × List (Int × Int) × Unit → Option (((Bool × Int × Unit × Unit × List Int × Int × Int × Unit) × (Vector Entry 64 × Batch × Unit × Unit) × List (Int × Int) × Unit) ⊕ ((Int × Unit) × (Vector Entry 64 × Batch × Unit × Unit) × List (Int × Int) × Unit ⊕ Unit × (Vector Entry 64 × Batch × Unit × Unit) × List (Int × Int) × Unit))
  | ((a, b, _, _, c, d, e, _), (f, g, _, _), h, _) => bif decide (e < d) then bif decide (0 ≤ e) && decide (e < (↑(List.length c) : Int)) then bif decide (lat c e < 0) then some (Sum.inr (Sum.inl ((14, ()), (f, g, (), ()), mput h (lat c e) (IntKind.wrap IntKind.i64 (Option.getD (mget h (lat c e)) 0 + 1)), ()))) else bif decide (256 ≤ lat c e) then some (Sum.inr (Sum.inl ((14, ()), (f, g, (), ()), mput h (lat c e) (IntKind.wrap IntKind.i64 (Option.getD (mget h (lat c e)) 0 + 1)), ()))) else bif decide (1 < Option.getD (mget (mput h (lat c e) (IntKind.wrap IntKind.i64 (Option.getD (mget h (lat c e)) 0 + 1))) (lat c e)) 0) then some (Sum.inr (Sum.inl ((15, ()), (f, g, (), ()), mput h (lat c e) (IntKind.wrap IntKind.i64 (Option.getD (mget h (lat c e)) 0 + 1)), ()))) else bif !decide (decide (0 ≤ findR f (lat c e)) = a) then some (Sum.inr (Sum.inl ((b, ()), (f, g, (), ()), mput h (lat c e) (IntKind.wrap IntKind.i64 (Option.getD (mget h (lat c e)) 0 + 1)), ()))) else some (Sum.inl ((a, b, (), (), c, d, IntKind.wrap IntKind.i64 (e + 1), ()), (f, g, (), ()), mput h (lat c e) (IntKind.wrap IntKind.i64 (Option.getD (mget h (lat c e)) 0 + 1)), ())) else none else some (Sum.inr (Sum.inr ((), (f, g, (), ()), h, ())))
/-- coterie/roster.Fits -/
def g_roster_Fits : Vector Entry 64 × Batch × Unit → Option (Int × Unit)
  | (a, b, _) => bif !decide (chkR a = 0) then some (chkR a, ()) else Option.bind (lfp g_roster_Fits_r1 ((true, 16, (), (), b.Leaves, (↑(List.length b.Leaves) : Int), 0, ()), (a, b, (), ()), [], ())) fun z => Sum.elim (fun x => bif !decide (x.fst.fst = 0) then some (x.fst.fst, ()) else Option.bind (lfp g_roster_Fits_r1 ((false, 17, (), (), x.snd.fst.snd.fst.Joins, (↑(List.length x.snd.fst.snd.fst.Joins) : Int), 0, ()), (x.snd.fst.fst, x.snd.fst.snd.fst, (), ()), x.snd.snd.fst, ())) fun z => Sum.elim (fun x => bif !decide (x.fst.fst = 0) then some (x.fst.fst, ()) else bif decide (IntKind.wrap IntKind.i64 (IntKind.wrap IntKind.i64 (64 - cntW (N.taken x.snd.fst.fst)) + (↑(List.length x.snd.fst.snd.fst.Leaves) : Int)) < (↑(List.length x.snd.fst.snd.fst.Joins) : Int)) then some (18, ()) else some (0, ())) (fun z => bif decide (IntKind.wrap IntKind.i64 (IntKind.wrap IntKind.i64 (64 - cntW (N.taken z.snd.fst.fst)) + (↑(List.length z.snd.fst.snd.fst.Leaves) : Int)) < (↑(List.length z.snd.fst.snd.fst.Joins) : Int)) then some (18, ()) else some (0, ())) z) (fun z => Option.bind (lfp g_roster_Fits_r1 ((false, 17, (), (), z.snd.fst.snd.fst.Joins, (↑(List.length z.snd.fst.snd.fst.Joins) : Int), 0, ()), (z.snd.fst.fst, z.snd.fst.snd.fst, (), ()), z.snd.snd.fst, ())) fun z => Sum.elim (fun x => bif !decide (x.fst.fst = 0) then some (x.fst.fst, ()) else bif decide (IntKind.wrap IntKind.i64 (IntKind.wrap IntKind.i64 (64 - cntW (N.taken x.snd.fst.fst)) + (↑(List.length x.snd.fst.snd.fst.Leaves) : Int)) < (↑(List.length x.snd.fst.snd.fst.Joins) : Int)) then some (18, ()) else some (0, ())) (fun z => bif decide (IntKind.wrap IntKind.i64 (IntKind.wrap IntKind.i64 (64 - cntW (N.taken z.snd.fst.fst)) + (↑(List.length z.snd.fst.snd.fst.Leaves) : Int)) < (↑(List.length z.snd.fst.snd.fst.Joins) : Int)) then some (18, ()) else some (0, ())) z) z
end Go.Co.N
end
end

section
set_option maxRecDepth 100000
noncomputable section
namespace Go.Co.N
open Go Go.Co
def g_roster_Move_r1 : (Int × Int × Unit × Unit × Unit × List Seat × Unit × List Int × Int × Int × Unit) × (Vector Entry 64 × Batch × Vector Entry 64 × Unit) × Unit → Option (((Int × Int × Unit × Unit × Unit × List Seat × Unit × List Int × Int × Int × Unit) × (Vector Entry 64 × Batch × Vector Entry 64 × Unit) × Unit) ⊕ ((Int × Int × Unit × Unit × Unit × List Seat × Unit × Unit) × (Vector Entry 64 × Batch × Vector Entry 64 × Unit) × Unit))
  | ((a, b, _, _, _, c, _, d, e, f, _), (g, h, i, _), _) => bif decide (f < e) then bif decide (0 ≤ f) && decide (f < (↑(List.length d) : Int)) then bif decide (0 ≤ findR g (lat d f)) && decide (findR g (lat d f) < 64) then bif decide ((List.length c + 1) * 16 ≤ 140737488355328) then some (Sum.inl ((a, b, (), (), (), List.append c [Seat.mk (lat d f) (findR g (lat d f))], (), d, e, IntKind.wrap IntKind.i64 (f + 1), ()), (Arr.put g (findR g (lat d f)) (Entry.mk 0 0 0), h, i, ()), ())) else none else none else none else some (Sum.inr ((a, b, (), (), (), c, (), ()), (g, h, i, ()), ()))
def g_roster_Move_r2 : (Int × Int × Unit × Unit × Unit × List Seat × List Seat × List Int × Int × Int × Unit) × (Vector Entry 64 × Batch × Vector Entry 64 × Unit) × Unit → Option (((Int × Int × Unit × Unit × Unit × List Seat × List Seat × List Int × Int × Int × Unit) × (Vector Entry 64 × Batch × Vector Entry 64 × Unit) × Unit) ⊕ ((Unit × Unit × List Seat × List Seat × Unit) × (Vector Entry 64 × Vector Entry 64 × Unit) × Unit))
  | ((a, b, _, _, _, c, d, e, f, g, _), (h, i, j, _), _) => bif decide (g < f) then bif decide (0 ≤ g) && decide (g < (↑(List.length e) : Int)) then bif decide (0 ≤ g) && decide (g < (↑(List.length i.Joins) : Int)) then bif decide (0 ≤ lat e g) && decide (lat e g < 64) then bif decide (0 ≤ g) && decide (g < (↑(List.length i.Joins) : Int)) then bif decide ((List.length d + 1) * 16 ≤ 140737488355328) then some (Sum.inl ((a, b, (), (), (), c, List.append d [Seat.mk (lat i.Joins g) (lat e g)], e, f, IntKind.wrap IntKind.i64 (g + 1), ()), (Arr.put h (lat e g) (Entry.mk (lat i.Joins g) (IntKind.wrap IntKind.i64 (b + g)) a), i, j, ()), ())) else none else none else none else none else none else some (Sum.inr (((), (), c, d, ()), (h, j, ()), ()))
/-- coterie/roster.Move -/
def g_roster_Move : Vector Entry 64 × Batch × Int × Int × Unit → Option (Vector Entry 64 × List Seat × List Seat × Int × Unit)
  | (a, b, c, d, _) => bif !decide (fits a b = 0) then bif !decide (fits a b = 0) then some (Vector.replicate 64 (St.zero St.entry), [], [], fits a b, ()) else Option.bind (lfp g_roster_Move_r1 ((c, d, (), (), (), [], (), b.Leaves, (↑(List.length b.Leaves) : Int), 0, ()), (a, b, Vector.replicate 64 (St.zero St.entry), ()), ())) fun z => Option.bind (lfp g_roster_Move_r2 ((z.fst.fst, z.fst.snd.fst, (), (), (), z.fst.snd.snd.snd.snd.snd.fst, [], (takeW (N.taken z.snd.fst.fst) (↑(List.length z.snd.fst.snd.fst.Joins) : Int)).fst, (↑(List.length (takeW (N.taken z.snd.fst.fst) (↑(List.length z.snd.fst.snd.fst.Joins) : Int)).fst) : Int), 0, ()), (z.snd.fst.fst, z.snd.fst.snd.fst, z.snd.fst.snd.snd.fst, ()), ())) fun z => some (z.snd.fst.fst, z.fst.snd.snd.fst, z.fst.snd.snd.snd.fst, 0, ()) else bif decide (c < 1) then some (Vector.replicate 64 (St.zero St.entry), [], [], 19, ()) else bif decide (200 < c) then some (Vector.replicate 64 (St.zero St.entry), [], [], 19, ()) else Option.bind (bif decide (0 ≤ (↑(List.length b.Joins) : Int)) && decide ((↑(List.length b.Joins) : Int) ≤ 64) then some (namesFree a d (↑(List.length b.Joins) : Int), ()) else none) fun y => bif !y.fst then some (Vector.replicate 64 (St.zero St.entry), [], [], 3, ()) else bif !decide (fits a b = 0) then some (Vector.replicate 64 (St.zero St.entry), [], [], fits a b, ()) else Option.bind (lfp g_roster_Move_r1 ((c, d, (), (), (), [], (), b.Leaves, (↑(List.length b.Leaves) : Int), 0, ()), (a, b, Vector.replicate 64 (St.zero St.entry), ()), ())) fun z => Option.bind (lfp g_roster_Move_r2 ((z.fst.fst, z.fst.snd.fst, (), (), (), z.fst.snd.snd.snd.snd.snd.fst, [], (takeW (N.taken z.snd.fst.fst) (↑(List.length z.snd.fst.snd.fst.Joins) : Int)).fst, (↑(List.length (takeW (N.taken z.snd.fst.fst) (↑(List.length z.snd.fst.snd.fst.Joins) : Int)).fst) : Int), 0, ()), (z.snd.fst.fst, z.snd.fst.snd.fst, z.snd.fst.snd.snd.fst, ()), ())) fun z => some (z.snd.fst.fst, z.fst.snd.snd.fst, z.fst.snd.snd.snd.fst, 0, ())
/-- coterie/plan.step -/
def g_plan_step : Tree × Batch × Unit → Option (Tree × Rekey × Int × Unit)
  | (a, b, _) => bif !decide (chkT a = 0) then some (Tree.mk 0 0 (Vector.replicate 21 (St.zero St.key)) (Vector.replicate 64 (St.zero St.entry)), Rekey.mk 0 [] [] [], chkT a, ()) else bif decide (a.Epoch = 200) then some (Tree.mk 0 0 (Vector.replicate 21 (St.zero St.key)) (Vector.replicate 64 (St.zero St.entry)), Rekey.mk 0 [] [] [], 19, ()) else bif !decide (fits a.Roster b = 0) then some (Tree.mk 0 0 (Vector.replicate 21 (St.zero St.key)) (Vector.replicate 64 (St.zero St.entry)), Rekey.mk 0 [] [] [], fits a.Roster b, ()) else Option.bind (bif decide (List.length b.Leaves ≤ 64) then some (goneOf a.Roster b.Leaves, ()) else none) fun y => bif decide (IntKind.wrap IntKind.i64 (IntKind.wrap IntKind.i64 (32768 - cntTo (replaced y.fst) 32) - (↑(List.length b.Joins) : Int)) < a.Fresh) then some (Tree.mk 0 0 (Vector.replicate 21 (St.zero St.key)) (Vector.replicate 64 (St.zero St.entry)), Rekey.mk 0 [] [] [], 3, ()) else bif !decide ((turn a.Keys (replaced y.fst) a.Fresh).snd.snd = 0) then some (Tree.mk 0 0 (Vector.replicate 21 (St.zero St.key)) (Vector.replicate 64 (St.zero St.entry)), Rekey.mk 0 [] [] [], (turn a.Keys (replaced y.fst) a.Fresh).snd.snd, ()) else bif !decide ((N.move a.Roster b (IntKind.wrap IntKind.i64 (a.Epoch + 1)) (turn a.Keys (replaced y.fst) a.Fresh).snd.fst).e = 0) then some (Tree.mk 0 0 (Vector.replicate 21 (St.zero St.key)) (Vector.replicate 64 (St.zero St.entry)), Rekey.mk 0 [] [] [], (N.move a.Roster b (IntKind.wrap IntKind.i64 (a.Epoch + 1)) (turn a.Keys (replaced y.fst) a.Fresh).snd.fst).e, ()) else some (Tree.mk (IntKind.wrap IntKind.i64 (a.Epoch + 1)) (IntKind.wrap IntKind.i64 ((turn a.Keys (replaced y.fst) a.Fresh).snd.fst + (↑(List.length (N.move a.Roster b (IntKind.wrap IntKind.i64 (a.Epoch + 1)) (turn a.Keys (replaced y.fst) a.Fresh).snd.fst).joined) : Int))) (turn a.Keys (replaced y.fst) a.Fresh).fst (N.move a.Roster b (IntKind.wrap IntKind.i64 (a.Epoch + 1)) (turn a.Keys (replaced y.fst) a.Fresh).snd.fst).r, Rekey.mk (IntKind.wrap IntKind.i64 (a.Epoch + 1)) (N.move a.Roster b (IntKind.wrap IntKind.i64 (a.Epoch + 1)) (turn a.Keys (replaced y.fst) a.Fresh).snd.fst).left (N.move a.Roster b (IntKind.wrap IntKind.i64 (a.Epoch + 1)) (turn a.Keys (replaced y.fst) a.Fresh).snd.fst).joined [], 0, ())
def g_plan_items_r2 : (Unit × Unit × Unit × Int × Int × Int × Int × Unit) × (Tree × Rekey × List Co.Item × Unit) × Unit → Option (((Unit × Unit × Unit × Int × Int × Int × Int × Unit) × (Tree × Rekey × List Co.Item × Unit) × Unit) ⊕ ((Unit × Unit × Unit × Int × Int × Int × Unit) × (Tree × Rekey × List Co.Item × Unit) × Unit))
  | ((_, _, _, a, b, c, d, _), (e, f, g, _), _) => bif decide (bw BinOp.and IntKind.u32 (shrI IntKind.u32 b (IntKind.wrap IntKind.u64 c)) 1 = 1) then bif decide (d < 4) then bif !decide (bw BinOp.and IntKind.u64 (mask (child c d)) a = 0) then Option.bind (bif betw (child c d) 0 84 then some (nodeK e (child c d), ()) else none) fun y => Option.bind (bif betw c 0 84 then some (nodeK e c, ()) else none) fun y_1 => bif decide ((sealK y.fst y_1.fst).snd = 0) then bif decide ((List.length g + 1) * 48 ≤ 140737488355328) then some (Sum.inl (((), (), (), a, b, c, IntKind.wrap IntKind.i64 (d + 1), ()), (e, f, List.append g [Item.mk c (child c d) (sealK y.fst y_1.fst).fst], ()), ())) else none else some (Sum.inl (((), (), (), a, b, c, IntKind.wrap IntKind.i64 (d + 1), ()), (e, f, g, ()), ())) else some (Sum.inl (((), (), (), a, b, c, IntKind.wrap IntKind.i64 (d + 1), ()), (e, f, g, ()), ())) else some (Sum.inr (((), (), (), a, b, c, ()), (e, f, g, ()), ())) else some (Sum.inr (((), (), (), a, b, c, ()), (e, f, g, ()), ()))
def g_plan_items_r1 : (Unit × Unit × Unit × Int × Int × Int × Unit) × (Tree × Rekey × List Co.Item × Unit) × Unit → Option (((Unit × Unit × Unit × Int × Int × Int × Unit) × (Tree × Rekey × List Co.Item × Unit) × Unit) ⊕ ((Unit × Unit × Unit × Int × Unit) × (Tree × Rekey × List Co.Item × Unit) × Unit))
  | ((_, _, _, a, b, c, _), (d, e, f, _), _) => bif decide (0 ≤ c) then Option.bind (lfp g_plan_items_r2 (((), (), (), a, b, c, 0, ()), (d, e, f, ()), ())) fun z => some (Sum.inl (((), (), (), z.fst.snd.snd.snd.fst, z.fst.snd.snd.snd.snd.fst, IntKind.wrap IntKind.i64 (z.fst.snd.snd.snd.snd.snd.fst - 1), ()), (z.snd.fst.fst, z.snd.fst.snd.fst, z.snd.fst.snd.snd.fst, ()), ())) else some (Sum.inr (((), (), (), b, ()), (d, e, f, ()), ()))
def g_plan_items_r4 : (Unit × Unit × Int × Unit × List Seat × Int × Int × Vector Int 3 × Int × Unit) × (Tree × List Co.Item × Seat × Unit) × Unit → Option (((Unit × Unit × Int × Unit × List Seat × Int × Int × Vector Int 3 × Int × Unit) × (Tree × List Co.Item × Seat × Unit) × Unit) ⊕ ((Unit × Unit × Int × List Seat × Int × Int × Unit) × (Tree × List Co.Item × Unit) × Unit))
  | ((_, _, a, _, b, c, d, e, f, _), (g, h, i, _), _) => bif decide (f < 3) then bif decide (0 ≤ f) && decide (f < 3) then bif decide (bw BinOp.and IntKind.u32 (shrI IntKind.u32 a (IntKind.wrap IntKind.u64 (Arr.get e f))) 1 = 0) then Option.bind (bif betw (leaf i.Slot) 0 84 then some (nodeK g (leaf i.Slot), ()) else none) fun y => Option.bind (bif betw (Arr.get e f) 0 84 then some (nodeK g (Arr.get e f), ()) else none) fun y_1 => bif decide ((sealK y.fst y_1.fst).snd = 0) then bif decide ((List.length h + 1) * 48 ≤ 140737488355328) then some (Sum.inl (((), (), a, (), b, c, d, e, IntKind.wrap IntKind.i64 (f + 1), ()), (g, List.append h [Item.mk (Arr.get e f) (leaf i.Slot) (sealK y.fst y_1.fst).fst], i, ()), ())) else none else some (Sum.inl (((), (), a, (), b, c, d, e, IntKind.wrap IntKind.i64 (f + 1), ()), (g, h, i, ()), ())) else some (Sum.inl (((), (), a, (), b, c, d, e, IntKind.wrap IntKind.i64 (f + 1), ()), (g, h, i, ()), ())) else none else some (Sum.inr (((), (), a, b, c, d, ()), (g, h, ()), ()))
def g_plan_items_r3 : (Unit × Unit × Int × List Seat × Int × Int × Unit) × (Tree × List Co.Item × Unit) × Unit → Option (((Unit × Unit × Int × List Seat × Int × Int × Unit) × (Tree × List Co.Item × Unit) × Unit) ⊕ ((Unit × Unit) × (List Co.Item × Unit) × Unit))
  | ((_, _, a, b, c, d, _), (e, f, _), _) => bif decide (d < c) then bif decide (0 ≤ d) && decide (d < (↑(List.length b) : Int)) then Option.bind (lfp g_plan_items_r4 (((), (), a, (), b, c, d, bif decide (0 ≤ leaf (lat b d).Slot) then pathN (lat b d).Slot else zero3, 0, ()), (e, f, lat b d, ()), ())) fun z => some (Sum.inl (((), (), z.fst.snd.snd.fst, z.fst.snd.snd.snd.fst, z.fst.snd.snd.snd.snd.fst, IntKind.wrap IntKind.i64 (z.fst.snd.snd.snd.snd.snd.fst + 1), ()), (z.snd.fst.fst, z.snd.fst.snd.fst, ()), ())) else none else some (Sum.inr (((), ()), (f, ()), ()))
/-- coterie/plan.items -/
def g_plan_items : Tree × Rekey × Unit → Option (List Co.Item × Unit)
  | (a, b, _) => Option.bind (lfp g_plan_items_r1 (((), (), (), N.taken a.Roster, replaced b.Leaves, 20, ()), (a, b, [], ()), ())) fun z => Option.bind (lfp g_plan_items_r3 (((), (), z.fst.snd.snd.snd.fst, z.snd.fst.snd.fst.Joins, (↑(List.length z.snd.fst.snd.fst.Joins) : Int), 0, ()), (z.snd.fst.fst, z.snd.fst.snd.snd.fst, ()), ())) fun z => some (z.snd.fst.fst, ())
/-- coterie/plan.Next -/
def g_plan_Next : Tree × Batch × Unit → Option (Tree × Rekey × Int × Unit)
  | (a, b, _) => bif !decide ((nextT a b).e = 0) then some (Tree.mk 0 0 (Vector.replicate 21 (St.zero St.key)) (Vector.replicate 64 (St.zero St.entry)), Rekey.mk 0 [] [] [], (nextT a b).e, ()) else Option.bind (bif calls (nextT a b).t (Rekey.mk (nextT a b).t.Epoch (nextT a b).left (nextT a b).joined []) then some (items (nextT a b).t (nextT a b).left (nextT a b).joined, ()) else none) fun y => some ((nextT a b).t, Rekey.mk (nextT a b).t.Epoch (nextT a b).left (nextT a b).joined y.fst, 0, ())
end Go.Co.N
end
end

section
namespace Go.Co.N
open Go Go.Co

/-! ### Rosters -/
structure GoodR (r : Roster) : Prop where
  one : ∀ s : Nat, s < 64 → ent r s = zeroE ∨ goodE (ent r s) = true
  who : ∀ s k : Nat, s < 64 → k < 64 → isOn r s = true → isOn r k = true → (ent r s).Who = (ent r k).Who → s = k
  base : ∀ s k : Nat, s < 64 → k < 64 → isOn r s = true → isOn r k = true → (ent r s).Base = (ent r k).Base → s = k
theorem goodR_iff {r : Roster} : goodRoster r = true ↔ GoodR r := by
  constructor
  · intro h
    refine ⟨fun s hs => ?_, fun s k hs hk h1 h2 => roster_who h hs hk h1 h2, fun s k hs hk h1 h2 => roster_base h hs hk h1 h2⟩
    by_cases hon : isOn r s = true
    · exact .inr (roster_on h hs hon).1
    · exact .inl (roster_off h hs hon)
  · intro h
    refine allN_iff.2 fun s hs => ?_
    unfold entOk
    rcases h.one s hs with h0 | h1
    · simp [h0]
    · rw [h1, Bool.or_eq_true]
      refine .inr ?_
      rw [Bool.true_and]
      refine allN_iff.2 fun k hk => ?_
      have hb : isOn r s = true := isOn_iff.2 (by have := (goodE_iff.1 h1).2.2.1; omega)
      by_cases hk0 : (ent r k).Base = 0
      · simp [hk0]
      · have hkon : isOn r k = true := isOn_iff.2 hk0
        have n1 : ¬ (ent r k).Who = (ent r s).Who := fun e => by have := h.who k s (by omega) hs hkon hb e; omega
        have n2 : ¬ (ent r k).Base = (ent r s).Base := fun e => by have := h.base k s (by omega) hs hkon hb e; omega
        simp [n1, n2]
theorem GoodR.leave {r : Roster} (h : GoodR r) {s : Nat} (hs : s < 64) : GoodR (Arr.put r (s : Int) zeroE) := by
  refine ⟨fun k hk => ?_, fun i k hi hk h1 h2 he => ?_, fun i k hi hk h1 h2 he => ?_⟩
  · rw [ent_put r hs]
    split
    · exact .inl rfl
    · exact h.one k hk
  all_goals
    rw [isOn_put r hs] at h1 h2
    rw [ent_put r hs, ent_put r hs] at he
    by_cases e1 : s = i
    · rw [if_pos e1] at h1; simp at h1
    by_cases e2 : s = k
    · rw [if_pos e2] at h2; simp at h2
    rw [if_neg e1] at h1 he
    rw [if_neg e2] at h2 he
  · exact h.who i k hi hk h1 h2 he
  · exact h.base i k hi hk h1 h2 he
theorem leave_all : ∀ (l : List Int) (r : Roster), canLeave r l → GoodR r →
    (leaveGo l r).2 = goneOf r l ∧ ∀ k : Nat, k < 64 → ent (leaveGo l r).1 k = if isOn r k = true ∧ (ent r k).Who ∈ l then zeroE else ent r k
  | [], r, _, _ => ⟨rfl, fun k hk => by simp [leaveGo]⟩
  | w :: l, r, hc, hg => by
    obtain ⟨s, hs, he, hon, hw, hn⟩ := canLeave_next hc
    obtain ⟨i1, i2⟩ := leave_all l _ hn (hg.leave hs)
    have hnd := List.nodup_cons.1 hc.2
    simp only [leaveGo, he]
    constructor
    · rw [i1]
      simp only [goneOf, List.map_cons, he]
      congr 1
      refine List.map_congr_left fun x hx => ?_
      rw [findR_put hs (fun e => hnd.1 (by rw [← hw, e]; exact hx)) (.inl rfl)]
    · intro k hk
      rw [i2 k hk, isOn_put r hs, ent_put r hs]
      by_cases e : s = k
      · subst e
        simp [hon, hw]
      · rw [if_neg e, if_neg e]
        by_cases hkon : isOn r k = true
        · have hne : (ent r k).Who ≠ w := fun h => e (hg.who s k hs hk hon hkon (by rw [hw, h]))
          simp [hkon, hne]
        · simp [hkon]
theorem join_all (since : Int) : ∀ (l : List Int) (base : Int) (r : Roster), l.length ≤ freeN r → 1 ≤ base →
    (∀ (i : Nat) (w : Int), l[i]? = some w → ∃ s : Nat, s < 64 ∧ isOn r s = false ∧ (joinGo since l base r).2[i]? = some ⟨w, s⟩ ∧ ent (joinGo since l base r).1 s = ⟨w, base + i, since⟩) ∧
    (∀ k : Nat, k < 64 → (∀ x ∈ (joinGo since l base r).2, x.Slot ≠ k) → ent (joinGo since l base r).1 k = ent r k) ∧
    (∀ x ∈ (joinGo since l base r).2, ∃ s : Nat, s < 64 ∧ x.Slot = s ∧ isOn r s = false) ∧
    ((joinGo since l base r).2.map (·.Slot)).Nodup
  | [], base, r, _, _ => ⟨fun i w h => by simp at h, fun k _ _ => rfl, fun x hx => by simp [joinGo] at hx, by simp [joinGo]⟩
  | w :: l, base, r, hf, hb => by
    obtain ⟨s, hs, he, hoff, _⟩ := lowFree_ok (r := r) (by simp only [List.length_cons] at hf; omega)
    have hf2 := freeN_join r hs ⟨w, base, since⟩
    obtain ⟨j1, j2, j3, j4⟩ := join_all since l (base + 1) (Arr.put r (s : Int) ⟨w, base, since⟩) (by simp only [List.length_cons] at hf; omega) (by omega)
    have hon' : isOn (Arr.put r (s : Int) ⟨w, base, since⟩) s = true := by
      rw [isOn_put r hs, if_pos rfl]
      have : ¬ base = 0 := by omega
      simp [this]
    have hoff' : ∀ k : Nat, isOn (Arr.put r (s : Int) ⟨w, base, since⟩) k = false → k ≠ s ∧ isOn r k = false := fun k hk => by
      have hne : k ≠ s := fun e => by rw [e, hon'] at hk; cases hk
      rw [isOn_put r hs, if_neg (fun e => hne e.symm)] at hk
      exact ⟨hne, hk⟩
    have hns : ∀ x ∈ (joinGo since l (base + 1) (Arr.put r (s : Int) ⟨w, base, since⟩)).2, x.Slot ≠ s := fun x hx hxs => by
      obtain ⟨k, _, hk, ho⟩ := j3 x hx
      have := (hoff' k ho).1
      rw [hk] at hxs; omega
    simp only [joinGo, he]
    refine ⟨fun i w' hi => ?_, fun k hk hno => ?_, fun x hx => ?_, ?_⟩
    · cases i with
      | zero =>
        simp only [List.getElem?_cons_zero, Option.some.injEq] at hi
        subst hi
        refine ⟨s, hs, hoff, rfl, ?_⟩
        rw [j2 s hs hns, ent_put r hs, if_pos rfl]
        simp
      | succ i =>
        simp only [List.getElem?_cons_succ] at hi
        obtain ⟨k, hk, ho, h1, h2⟩ := j1 i w' hi
        refine ⟨k, hk, (hoff' k ho).2, by simpa using h1, ?_⟩
        rw [h2, show base + 1 + (i : Int) = base + ((i + 1 : Nat) : Int) by omega]
    · have h1 := hno _ (List.mem_cons_self ..)
      rw [j2 k hk fun x hx => hno x (List.mem_cons_of_mem _ hx), ent_put r hs, if_neg (fun e => h1 (by rw [e]))]
    · rcases List.mem_cons.1 hx with rfl | hx
      · exact ⟨s, hs, rfl, hoff⟩
      · obtain ⟨k, hk, h1, h2⟩ := j3 x hx
        exact ⟨k, hk, h1, (hoff' k h2).2⟩
    · simp only [List.map_cons, List.nodup_cons]
      refine ⟨fun hm => ?_, j4⟩
      obtain ⟨x, hx, hxs⟩ := List.mem_map.1 hm
      exact hns x hx hxs

/-! ### Steps -/
section
variable {t : Tree} {b : Batch} (h : (nextT t b).e = 0)
include h
theorem nx_left : (nextT t b).left = goneOf t.Roster b.Leaves := by
  obtain ⟨hg, _, hfi, _, hm, he⟩ := nextT_ok h
  obtain ⟨h1, h2, _, _⟩ := fits_ok hfi
  rw [he]
  show (stepMove t b).left = _
  unfold stepMove
  rw [(move_joined hm).1, moveGo]
  exact (leave_all _ _ (canLeave_of h2) (goodR_iff.1 h1)).1
theorem nx_turn : (nextT t b).t.Keys = turned t.Keys (replaced (nextT t b).left) t.Fresh ∧ goodKeys t.Keys = true ∧ replaced (nextT t b).left < 2097152 ∧
    free t.Keys t.Fresh (cntTo (replaced (nextT t b).left) 21) = true ∧ (∀ v : Nat, v < 21 → inB (replaced (nextT t b).left) v = true ∨ stp t.Keys v < 255) := by
  obtain ⟨hg, _, hfi, ht, hm, he⟩ := nextT_ok h
  have hk : (nextT t b).t.Keys = (stepTurn t b).1 := by rw [he]
  rw [hk, nx_left h]
  obtain ⟨h1, h2, h3, h4, h5⟩ := turn_ok ht
  exact ⟨by unfold stepTurn; rw [h5], h1, h2, h3, h4⟩
theorem nx_epoch : (nextT t b).t.Epoch = t.Epoch + 1 ∧ 0 ≤ t.Epoch ∧ t.Epoch < 200 := by
  obtain ⟨hg, h1, _, _, _, he⟩ := nextT_ok h
  exact ⟨by rw [he], (goodTree_iff.1 hg).1, h1⟩
theorem nx_fresh : (nextT t b).t.Fresh = t.Fresh + cntTo (replaced (nextT t b).left) 21 + b.Joins.length := by
  obtain ⟨_, _, _, ht, _, he⟩ := nextT_ok h
  rw [nx_left h]
  have hf : (nextT t b).t.Fresh = (stepTurn t b).2.1 + b.Joins.length := by rw [he]
  rw [hf, stepTurn, turn_fresh ht]
theorem nx_room : (nextT t b).t.Fresh ≤ 32768 ∧ 22 ≤ t.Fresh ∧ 0 ≤ cntTo (replaced (nextT t b).left) 21 := by
  obtain ⟨hg, _, _, ht, hm, _⟩ := nextT_ok h
  obtain ⟨_, _, h22, hlt, _, _, _, _⟩ := goodTree_iff.1 hg
  have hc := cntTo_le (replaced (nextT t b).left) 21
  have hfr := (nx_turn h).2.2.2.1
  have hnf := (move_joined hm).2.2.2
  rw [stepTurn, turn_fresh ht] at hnf
  rw [← nx_left h] at hnf
  have hfe := nx_fresh h
  refine ⟨?_, h22, hc.1⟩
  rw [hfe]
  by_cases hj : b.Joins.length = 0
  · rcases free_cnt hfr with h0 | ⟨_, h0, _⟩ <;> omega
  · have hz : ¬ (b.Joins.length : Int) = 0 := by omega
    unfold namesFree at hnf
    simp only [hz, decide_false, Bool.false_or, Bool.and_eq_true, decide_eq_true_eq] at hnf
    omega
theorem nx_leaves : b.Leaves.Nodup ∧ ∀ w ∈ b.Leaves, ∃ s : Nat, s < 64 ∧ findR t.Roster w = s ∧ isOn t.Roster s = true ∧ (ent t.Roster s).Who = w := by
  obtain ⟨_, _, hfi, _, _, _⟩ := nextT_ok h
  obtain ⟨_, h2, _, _⟩ := fits_ok hfi
  obtain ⟨h3, h4⟩ := askL_0 h2
  refine ⟨h4, fun w hw => ?_⟩
  obtain ⟨s, hs, he, hon, hwho, _⟩ := findR_some ((h3 w hw).2.2.2.2 rfl)
  exact ⟨s, hs, he, hon, hwho⟩
theorem nx_joins : b.Joins.Nodup ∧ ∀ w ∈ b.Joins, 0 ≤ w ∧ w < 256 ∧ w ∉ b.Leaves ∧ ∀ s : Nat, s < 64 → isOn t.Roster s = true → (ent t.Roster s).Who ≠ w := by
  obtain ⟨_, _, hfi, _, _, _⟩ := nextT_ok h
  obtain ⟨_, _, h2, _⟩ := fits_ok hfi
  obtain ⟨h3, h4⟩ := askL_0 h2
  refine ⟨h4, fun w hw => ?_⟩
  obtain ⟨k1, k2, k3, k4⟩ := h3 w hw
  refine ⟨k1, k2, k3, (findR_none fun hge => ?_).2⟩
  have := k4.1 hge
  cases this
/-- The names that joiners get begin here. -/
theorem nx_moved : (∀ (i : Nat) (w : Int), b.Joins[i]? = some w → ∃ s : Nat, s < 64 ∧ (nextT t b).joined[i]? = some ⟨w, s⟩ ∧ ent (nextT t b).t.Roster s = ⟨w, t.Fresh + cntTo (replaced (nextT t b).left) 21 + i, t.Epoch + 1⟩ ∧ (isOn t.Roster s = true → (ent t.Roster s).Who ∈ b.Leaves)) ∧
    (∀ k : Nat, k < 64 → (∀ x ∈ (nextT t b).joined, x.Slot ≠ k) → ent (nextT t b).t.Roster k = if isOn t.Roster k = true ∧ (ent t.Roster k).Who ∈ b.Leaves then zeroE else ent t.Roster k) ∧
    ((nextT t b).joined.map (·.Slot)).Nodup := by
  obtain ⟨hg, _, hfi, ht, hm, he⟩ := nextT_ok h
  obtain ⟨h1, h2, _, _⟩ := fits_ok hfi
  obtain ⟨_, l2⟩ := leave_all _ _ (canLeave_of h2) (goodR_iff.1 h1)
  have hroom := move_room hfi
  have hr := nx_room h
  have hbase : (stepTurn t b).2.1 = t.Fresh + cntTo (replaced (nextT t b).left) 21 := by rw [nx_left h, stepTurn, turn_fresh ht]
  have hmv : stepMove t b = moveGo t.Roster b (t.Epoch + 1) (stepTurn t b).2.1 := (move_joined hm).1
  rw [hbase] at hmv
  have hj : (nextT t b).joined = (joinGo (t.Epoch + 1) b.Joins (t.Fresh + cntTo (replaced (nextT t b).left) 21) (leaveGo b.Leaves t.Roster).1).2 := by
    have : (nextT t b).joined = (stepMove t b).joined := by rw [he]
    rw [this, hmv]; rfl
  have hro : (nextT t b).t.Roster = (joinGo (t.Epoch + 1) b.Joins (t.Fresh + cntTo (replaced (nextT t b).left) 21) (leaveGo b.Leaves t.Roster).1).1 := by
    have : (nextT t b).t.Roster = (stepMove t b).r := by rw [he]
    rw [this, hmv]; rfl
  obtain ⟨j1, j2, j3, j4⟩ := join_all (t.Epoch + 1) b.Joins (t.Fresh + cntTo (replaced (nextT t b).left) 21) (leaveGo b.Leaves t.Roster).1 hroom.1 (by omega)
  rw [← hj] at j1 j2 j3 j4
  rw [← hro] at j1 j2
  refine ⟨fun i w hi => ?_, fun k hk hno => ?_, j4⟩
  · obtain ⟨s, hs, hoff, a1, a2⟩ := j1 i w hi
    refine ⟨s, hs, a1, a2, fun hon => ?_⟩
    apply Classical.byContradiction
    intro hno
    have hl := l2 s hs
    rw [if_neg (fun hc => hno hc.2)] at hl
    unfold isOn at hoff hon
    rw [hl, hon] at hoff
    cases hoff
  · rw [j2 k hk hno, l2 k hk]
theorem nx_joined_at {x : Co.Seat} (hx : x ∈ (nextT t b).joined) : ∃ (i s : Nat), b.Joins[i]? = some x.Who ∧ i < b.Joins.length ∧ s < 64 ∧ x.Slot = s ∧ ent (nextT t b).t.Roster s = ⟨x.Who, t.Fresh + cntTo (replaced (nextT t b).left) 21 + i, t.Epoch + 1⟩ ∧ (isOn t.Roster s = true → (ent t.Roster s).Who ∈ b.Leaves) := by
  obtain ⟨i, hi⟩ := List.getElem?_of_mem hx
  have hlen := (nextT_joined h).1
  have hil : i < b.Joins.length := by
    have := (List.getElem?_eq_some_iff.1 hi).1
    omega
  obtain ⟨s, hs, a1, a2, a3⟩ := (nx_moved h).1 i b.Joins[i] (List.getElem?_eq_getElem hil)
  rw [hi] at a1
  simp only [Option.some.injEq] at a1
  subst a1
  exact ⟨i, s, List.getElem?_eq_getElem hil, hil, hs, rfl, a2, a3⟩
/-- A seat of the new tree: it stayed, somebody joined there, or it is free. -/
theorem nx_seat (k : Nat) (hk : k < 64) : (∃ x ∈ (nextT t b).joined, x.Slot = k) ∨
    ((∀ x ∈ (nextT t b).joined, x.Slot ≠ k) ∧ ((isOn t.Roster k = true ∧ (ent t.Roster k).Who ∈ b.Leaves ∧ ent (nextT t b).t.Roster k = zeroE) ∨ (¬ (isOn t.Roster k = true ∧ (ent t.Roster k).Who ∈ b.Leaves) ∧ ent (nextT t b).t.Roster k = ent t.Roster k))) := by
  by_cases hj : ∃ x ∈ (nextT t b).joined, x.Slot = k
  · exact .inl hj
  · have hno : ∀ x ∈ (nextT t b).joined, x.Slot ≠ k := fun x hx e => hj ⟨x, hx, e⟩
    refine .inr ⟨hno, ?_⟩
    have := (nx_moved h).2.1 k hk hno
    by_cases hc : isOn t.Roster k = true ∧ (ent t.Roster k).Who ∈ b.Leaves
    · rw [if_pos hc] at this; exact .inl ⟨hc.1, hc.2, this⟩
    · rw [if_neg hc] at this; exact .inr ⟨hc, this⟩
theorem nx_roster : GoodR (nextT t b).t.Roster := by
  obtain ⟨hg, _, hfi, _, _, _⟩ := nextT_ok h
  obtain ⟨_, _, _, _, _, hgr, _, hgs⟩ := goodTree_iff.1 hg
  have hR := goodR_iff.1 hgr
  have hep := nx_epoch h
  have hfr := nx_fresh h
  have hro := nx_room h
  obtain ⟨hnd, hjs⟩ := nx_joins h
  have seat : ∀ k : Nat, k < 64 → isOn (nextT t b).t.Roster k = true → (∃ i : Nat, i < b.Joins.length ∧ b.Joins[i]? = some (ent (nextT t b).t.Roster k).Who ∧ (ent (nextT t b).t.Roster k).Base = t.Fresh + cntTo (replaced (nextT t b).left) 21 + i) ∨ (isOn t.Roster k = true ∧ ent (nextT t b).t.Roster k = ent t.Roster k) := fun k hk hon => by
    rcases nx_seat h k hk with ⟨x, hx, hxk⟩ | ⟨_, ⟨_, _, hz⟩ | ⟨_, he⟩⟩
    · obtain ⟨i, s, h1, h2, hs, h3, h4, _⟩ := nx_joined_at h hx
      have : s = k := by omega
      subst this
      exact .inl ⟨i, h2, by rw [h4]; exact h1, by rw [h4]⟩
    · unfold isOn at hon; rw [hz] at hon; simp at hon
    · refine .inr ⟨?_, he⟩
      unfold isOn at hon ⊢
      rwa [he] at hon
  have place : ∀ k : Nat, k < 64 → isOn (nextT t b).t.Roster k = true → ∀ a : Nat, (ent (nextT t b).t.Roster k).Base = t.Fresh + cntTo (replaced (nextT t b).left) 21 + (a : Int) → ∃ w, (nextT t b).joined[a]? = some ⟨w, k⟩ := fun k hk hon a hb => by
    rcases nx_seat h k hk with ⟨x, hx, hxk⟩ | ⟨_, ⟨_, _, hz⟩ | ⟨_, he⟩⟩
    · obtain ⟨j, hj⟩ := List.getElem?_of_mem hx
      have hjl : j < b.Joins.length := by have := (List.getElem?_eq_some_iff.1 hj).1; have := (nextT_joined h).1; omega
      obtain ⟨s3, hs3, c1, c2, _⟩ := (nx_moved h).1 j b.Joins[j] (List.getElem?_eq_getElem hjl)
      rw [hj] at c1
      simp only [Option.some.injEq] at c1
      have e3 : s3 = k := by rw [c1] at hxk; simp only at hxk; omega
      subst e3
      rw [c2] at hb
      simp only at hb
      have e4 : j = a := by omega
      subst e4
      exact ⟨_, by rw [hj, c1]⟩
    · unfold isOn at hon; rw [hz] at hon; simp at hon
    · rw [he] at hb
      have := (hgs k hk).1
      omega
  have hbase : ∀ i k : Nat, i < 64 → k < 64 → isOn (nextT t b).t.Roster i = true → isOn (nextT t b).t.Roster k = true → (ent (nextT t b).t.Roster i).Base = (ent (nextT t b).t.Roster k).Base → i = k := fun i k hi hk h1 h2 he => by
    rcases seat i hi h1 with ⟨a, ha, ha1, ha2⟩ | ⟨ho1, he1⟩ <;> rcases seat k hk h2 with ⟨c, hc, hc1, hc2⟩ | ⟨ho2, he2⟩
    · have hac : a = c := by omega
      subst hac
      obtain ⟨w1, e1⟩ := place i hi h1 a ha2
      obtain ⟨w2, e2⟩ := place k hk h2 a hc2
      rw [e1] at e2
      simp only [Option.some.injEq, Seat.mk.injEq] at e2
      omega
    · have := (hgs k hk).1
      rw [ha2, he2] at he; omega
    · have := (hgs i hi).1
      rw [hc2, he1] at he; omega
    · exact hR.base i k hi hk ho1 ho2 (by rw [← he1, ← he2, he])
  refine ⟨fun k hk => ?_, fun i k hi hk h1 h2 he => ?_, hbase⟩
  · rcases nx_seat h k hk with ⟨x, hx, hxk⟩ | ⟨_, ⟨_, _, hz⟩ | ⟨_, he⟩⟩
    · obtain ⟨i, s, a1, a2, hs, a3, a4, _⟩ := nx_joined_at h hx
      have : s = k := by omega
      subst this
      rw [a4]
      have hw := hjs x.Who (List.mem_of_getElem? a1)
      refine .inr (goodE_iff.2 ⟨hw.1, hw.2.1, ?_, ?_, ?_, ?_⟩) <;> simp only <;> omega
    · exact .inl hz
    · rw [he]; exact hR.one k hk
  · rcases seat i hi h1 with ⟨a, ha, ha1, ha2⟩ | ⟨ho1, he1⟩ <;> rcases seat k hk h2 with ⟨c, hc, hc1, hc2⟩ | ⟨ho2, he2⟩
    · have hac : a = c := by
        rw [he] at ha1
        exact (List.getElem?_inj ha hnd).1 (ha1.trans hc1.symm)
      subst hac
      exact hbase i k hi hk h1 h2 (by rw [ha2, hc2])
    · have := hjs _ (List.mem_of_getElem? ha1)
      exact absurd (by rw [he, he2]) (this.2.2.2 k hk ho2)
    · have := hjs _ (List.mem_of_getElem? hc1)
      exact absurd (by rw [← he, he1]) (this.2.2.2 i hi ho1)
    · exact hR.who i k hi hk ho1 ho2 (by rw [← he1, ← he2, he])
/-- The new tree is right. -/
theorem nx_good : goodTree (nextT t b).t = true := by
  obtain ⟨hg, _, hfi, _, _, _⟩ := nextT_ok h
  obtain ⟨_, _, _, _, _, hgr, hgk, hgs⟩ := goodTree_iff.1 hg
  have hep := nx_epoch h
  have hfr := nx_fresh h
  have hro := nx_room h
  obtain ⟨hk, hk1, hk2, hk3, hk4⟩ := nx_turn h
  have key : ∀ v : Nat, v < 21 → (inB (replaced (nextT t b).left) v = true ∧ t.Fresh ≤ bas (nextT t b).t.Keys v ∧ bas (nextT t b).t.Keys v < t.Fresh + cntTo (replaced (nextT t b).left) 21 ∧ stp (nextT t b).t.Keys v = 0) ∨ (¬ inB (replaced (nextT t b).left) v = true ∧ bas (nextT t b).t.Keys v = bas t.Keys v ∧ stp (nextT t b).t.Keys v = stp t.Keys v + 1) := fun v hv => by
    rw [hk, bas, stp, turned_get _ _ _ v hv]
    by_cases hin : inB (replaced (nextT t b).left) v = true
    · have := fresh_bounds (k := t.Keys) hk3 hv hin
      exact .inl ⟨hin, this.1, this.2.1, this.2.2.2.2.1⟩
    · rw [kept_at hin]
      exact .inr ⟨hin, rfl, rfl⟩
  refine goodTree_iff.2 ⟨by omega, by omega, by omega, hro.1, ?_, goodR_iff.2 (nx_roster h), fun v hv => ?_, fun s hs => ?_⟩
  · rw [hk]; exact goodKeys_turned hk1 hk3 hk4
  · have := hgk v hv
    rcases key v hv with ⟨_, h1, h2, h3⟩ | ⟨_, h1, h2⟩ <;> omega
  · have hb0 : ∀ v : Nat, v < 21 → 1 ≤ bas (nextT t b).t.Keys v := fun v hv => by
      have := good_iff.1 (goodKeys_iff.1 hk1 v hv).1
      rcases key v hv with ⟨_, h1, h2, h3⟩ | ⟨_, h1, h2⟩
      · omega
      · rw [h1]; exact this.1
    rcases nx_seat h s hs with ⟨x, hx, hxk⟩ | ⟨_, ⟨_, _, hz⟩ | ⟨_, he⟩⟩
    · obtain ⟨i, k, a1, a2, hs2, a3, a4, _⟩ := nx_joined_at h hx
      have : k = s := by omega
      subst this
      rw [a4]
      refine ⟨by simp only; omega, by simp only; omega, fun v hv => ?_⟩
      have := hgk v hv
      simp only
      rcases key v hv with ⟨_, h1, h2, h3⟩ | ⟨_, h1, h2⟩ <;> omega
    · rw [hz]
      refine ⟨by simp only; omega, by simp only; omega, fun v hv => ?_⟩
      have := hb0 v hv
      simp only; omega
    · rw [he]
      have h0 := hgs s hs
      refine ⟨by omega, by omega, fun v hv => ?_⟩
      rcases key v hv with ⟨_, h1, h2, h3⟩ | ⟨_, h1, h2⟩
      · omega
      · rw [h1]; exact h0.2.2 v hv
end
end Go.Co.N
end

section
namespace Go.Co.N
open Go Go.Co

/-! ### Members -/
/-! ### Messages' parts -/
theorem mask_below : allN 85 (fun v => allN 85 fun w => decide (decide (bw BinOp.and IntKind.u64 (maskF v) (maskF w) = maskF w) = below v w)) = true := by decide +kernel
theorem maskF_eq {v : Int} (h0 : 0 ≤ v) (h1 : v < 85) : mask v = maskF v := by
  have := allN_iff.1 mask_all v.toNat (by omega)
  simp only [decide_eq_true_eq] at this
  rw [Int.toNat_of_nonneg h0] at this
  exact this.symm
theorem level_neg {v : Int} : level v < 0 ↔ node v = false := by
  by_cases h : 0 ≤ v ∧ v < 85
  · have hn : node v = true := node_iff.2 h
    rcases level_in h.1 h.2 with ⟨_, hl⟩ | ⟨_, _, hl⟩ | ⟨_, _, hl⟩ | ⟨_, hl⟩ <;> rw [hl, hn] <;> simp
  · have hn : node v = false := Bool.eq_false_iff.2 fun hn => h (node_iff.1 hn)
    rw [level_out h, hn]; simp
theorem eq_shape_Below : Eqs c_shape_Below g_shape_Below := Eqs.tot fun (v, w, _) _ => by
  change Int at v w
  simp only [g_shape_Below, level_neg]
  cases hv : node v with
  | false => simp [below, hv]
  | true =>
    cases hw : node w with
    | false => simp [below, hw]
    | true =>
      have h1 := node_iff.1 hv
      have h2 := node_iff.1 hw
      have := allN_iff.1 (allN_iff.1 mask_below v.toNat (by omega)) w.toNat (by omega)
      simp only [decide_eq_true_eq] at this
      rw [Int.toNat_of_nonneg h1.1, Int.toNat_of_nonneg h2.1] at this
      simp only [Bool.true_eq_false, decide_false, cond_false]
      rw [maskF_eq h1.1 h1.2, maskF_eq h2.1 h2.2, this]
def parts (a b c d : Bool) : Arr 4 Bool := Arr.put (Arr.put (Arr.put (Arr.put (Vector.replicate 4 false) 0 a) 1 b) 2 c) 3 d
def partAt (a b c d : Bool) : Nat → Bool
  | 0 => a
  | 1 => b
  | 2 => c
  | _ => d
end Go.Co.N
end

section
namespace Go.Co.N
open Go Go.Co

/-! ### The laws -/
section
variable {t : Tree} (hg : goodTree t = true) {s : Nat} (hs : s < 64) (hon : isOn t.Roster s = true)
include hg hs hon
end
end Go.Co.N
end

section
namespace Go.Co.N
open Go Go.Co

/-! ### Keys -/
/-! ### Masks -/
theorem bw_or32 (n m : Nat) (hn : n < 4294967296) (hm : m < 4294967296) : bw .or .u32 (n : Int) (m : Int) = ((n ||| m : Nat) : Int) := by
  have e1 : BitVec.ofInt IntKind.u32.bits (n : Int) = BitVec.ofNat 32 n := by simp [IntKind.bits]
  have e2 : BitVec.ofInt IntKind.u32.bits (m : Int) = BitVec.ofNat 32 m := by simp [IntKind.bits]
  have hle : n ||| m < 4294967296 := Nat.or_lt_two_pow (n := 32) hn hm
  unfold bw
  simp only [e1, e2]
  have e3 : (BitVec.ofNat 32 n ||| BitVec.ofNat 32 m).toNat = n ||| m := by
    simp [BitVec.toNat_or, Nat.mod_eq_of_lt hn, Nat.mod_eq_of_lt hm]
  show IntKind.u32.wrap (((BitVec.ofNat 32 n ||| BitVec.ofNat 32 m).toNat : Nat) : Int) = _
  rw [e3, Go.IntWalk.u32_in _ (by omega)]
theorem word_up32 (p : Nat → Bool) {n : Nat} (h : n ≤ 32) : word p n < 4294967296 := Nat.lt_of_lt_of_le (word_lt p n) (Nat.pow_le_pow_right (by omega) h : 2 ^ n ≤ 2 ^ 32)
theorem shl_one32 (i : Nat) (h : i < 32) : shlI .u32 1 (IntKind.u64.wrap (i : Int)) = ((2 ^ i : Nat) : Int) := by
  rw [Go.IntWalk.u64_in _ (by omega)]
  unfold shlI
  have : min (Int.toNat (i : Int)) IntKind.u32.bits = i := by simp [IntKind.bits]; omega
  rw [this, Int.one_mul]
  have h2 : (2 : Nat) ^ i < 2 ^ 32 := Nat.pow_lt_pow_right (by omega) h
  have h3 : ((2 : Int) ^ i) = ((2 ^ i : Nat) : Int) := by simp
  rw [h3]
  generalize 2 ^ i = x at h2
  exact Go.IntWalk.u32_in _ (by omega)
theorem word_or32 (p : Nat → Bool) (i : Nat) (h : i < 32) : bw .or .u32 (word p i : Nat) (shlI .u32 1 (IntKind.u64.wrap (i : Int))) = ((word p i + 2 ^ i : Nat) : Int) := by
  have h2 : (2 : Nat) ^ i < 2 ^ 32 := Nat.pow_lt_pow_right (by omega) h
  rw [shl_one32 i h, bw_or32 _ _ (word_up32 p (by omega)) h2]
  congr 1
  rw [Nat.or_comm, Nat.add_comm, show 2 ^ i + word p i = 2 ^ i * 1 + word p i by omega, Nat.two_pow_add_eq_or_of_lt (word_lt p i), Nat.mul_one]
theorem eq_shape_Above : Eqs c_shape_Above g_shape_Above := Eqs.tot fun (s, _) _ => by
  change Int at s
  simp only [g_shape_Above]
  rw [lfp_run' (fun i => ((s, ((word (fun v => !decide (bw .and .u64 (mask v) s = 0)) i : Nat) : Int), (i : Int), ()), (), ())) 21 (by rfl) fun i hi => by
    have h1 : (i : Int) < 21 := by omega
    simp only [g_shape_Above_r1, h1, decide_true, cond_true, wrap1 i (by omega), word_or32 _ i (by omega : i < 32), word]
    cases decide (bw .and .u64 (mask (i : Int)) s = 0) <;> rfl]
  rw [lfp_inr (z := ((((word (fun v => !decide (bw .and .u64 (mask v) s = 0)) 21 : Nat) : Int), ()), (), ())) (by simp [g_shape_Above_r1])]
  rfl
theorem word_or_word (p q : Nat → Bool) : bw .or .u64 (word p 64 : Nat) (word q 64 : Nat) = ((word (fun i => p i || q i) 64 : Nat) : Int) := by
  rw [bw_or64 _ _ (word_64 p) (word_64 q)]
  congr 1
  apply Nat.eq_of_testBit_eq
  intro i
  rw [Nat.testBit_or, word_bit, word_bit, word_bit]
  cases decide (i < 64) <;> cases p i <;> cases q i <;> rfl
/-- The slots of these seats. -/
def slotsB (l : List Co.Seat) (i : Nat) : Bool := l.any fun s => below (leaf s.Slot) (leaf i)
theorem mask_leaf (s : Int) : mask (leaf s) = ((word (fun i => below (leaf s) (leaf i)) 64 : Nat) : Int) := rfl
theorem word_nil : word (slotsB []) 64 = 0 := by decide +kernel
theorem slotsB_app (l : List Co.Seat) (s : Co.Seat) : (fun i => slotsB l i || below (leaf s.Slot) (leaf (i : Int))) = slotsB (l ++ [s]) := by
  funext i; simp [slotsB]
theorem seats_mask {Z : Type} (fin : Int → Z) : ∀ (l acc : List Co.Seat), foldE (fun (a : Int) (s : Co.Seat) => (Sum.inl (bw .or .u64 a (mask (leaf s.Slot))) : Int ⊕ Z)) fin l ((word (slotsB acc) 64 : Nat) : Int) = fin ((word (slotsB (acc ++ l)) 64 : Nat) : Int)
  | [], acc => by simp [foldE]
  | s :: l, acc => by
    simp only [foldE]
    rw [mask_leaf, word_or_word, slotsB_app, seats_mask fin l]
    simp
theorem leaf_below : allN 64 (fun k => allN 64 fun i => decide (below (leaf k) (leaf i) = decide (k = i))) = true := by decide +kernel
theorem below_leaf_slot (v : Nat) (s : Int) : below (v : Int) (leaf s) = anyN 64 fun i => below v (leaf i) && below (leaf s) (leaf i) := by
  by_cases h : 0 ≤ s ∧ s < 64
  · obtain ⟨k, rfl⟩ := Int.eq_ofNat_of_zero_le h.1
    have hk : k < 64 := by omega
    have hkb := allN_iff.1 leaf_below k hk
    refine bool_eq ?_
    rw [anyN_iff]
    constructor
    · intro hb
      have := allN_iff.1 hkb k hk
      simp only [decide_eq_true_eq] at this
      exact ⟨k, hk, by rw [hb, this]; simp⟩
    · rintro ⟨i, hi, hb⟩
      simp only [Bool.and_eq_true] at hb
      have := allN_iff.1 hkb i hi
      simp only [decide_eq_true_eq] at this
      rw [this] at hb
      have hki : k = i := by simpa using hb.2
      subst hki; exact hb.1
  · have : leaf s = -1 := by unfold leaf; rw [if_neg h]
    rw [this]
    have h0 : below (v : Int) (-1) = false := by simp [below, node]
    have h1 : ∀ w, below (-1) w = false := fun w => by simp [below, node]
    rw [h0]; exact (anyN_false.2 fun i _ => by rw [h1]; simp).symm
theorem above_slots (l : List Co.Seat) : aboveM ((word (slotsB l) 64 : Nat) : Int) = replaced l := by
  unfold aboveM
  rw [replaced_eq]
  congr 1
  refine word_congr 21 fun v _ => ?_
  rw [show mask (v : Int) = ((word (fun i => below v (leaf i)) 64 : Nat) : Int) from rfl, word_and]
  have e : decide (((word (fun i => below v (leaf i) && slotsB l i) 64 : Nat) : Int) = 0) = decide (word (fun i => below v (leaf i) && slotsB l i) 64 = 0) := by congr 1; simp
  rw [e]
  refine bool_eq ?_
  simp only [Bool.not_eq_true', decide_eq_false_iff_not, word_0]
  unfold hitB slotsB
  rw [List.any_eq_true]
  constructor
  · intro h
    have : ∃ i : Nat, i < 64 ∧ (below v (leaf i) && l.any fun s => below (leaf s.Slot) (leaf i)) = true := by
      apply Classical.byContradiction
      intro hn
      exact h fun i hi => Bool.eq_false_iff.2 fun hb => hn ⟨i, hi, hb⟩
    obtain ⟨i, hi, hb⟩ := this
    simp only [Bool.and_eq_true, List.any_eq_true] at hb
    obtain ⟨h1, s, hs, h2⟩ := hb
    exact ⟨s, hs, by rw [below_leaf_slot]; exact anyN_iff.2 ⟨i, hi, by rw [h1, h2]; rfl⟩⟩
  · rintro ⟨s, hs, hb⟩ h
    rw [below_leaf_slot] at hb
    obtain ⟨i, hi, h2⟩ := anyN_iff.1 hb
    simp only [Bool.and_eq_true] at h2
    have := h i hi
    simp only [Bool.and_eq_false_iff, List.any_eq_false] at this
    rcases this with h3 | h3
    · rw [h2.1] at h3; cases h3
    · exact h3 s hs h2.2
theorem eq_plan_Replaced : Eqs c_plan_Replaced g_plan_Replaced := Eqs.tot fun (l, _) hf => by
  have hlen : List.length (l : List Co.Seat) * 16 ≤ 140737488355328 := fine_seat_list hf.1
  simp only [g_plan_Replaced]
  have h := lfp_list (f := g_plan_Replaced_r1) (l : List Co.Seat) (fun i (a : Int) => ((a, (l : List Co.Seat), (List.length (l : List Co.Seat) : Int), (i : Int), ()), (), ()))
    (fun a s => Sum.inl (bw .or .u64 a (mask (leaf s.Slot)))) (fun _ _ _ => True) (fun a => ((a, ()), (), ()))
    (fun i x rest a _ hi hx _ => by
      refine ⟨fun _ _ => trivial, ?_⟩
      have g1 : (i : Int) < (List.length (l : List Co.Seat) : Int) := by omega
      simp only [g_plan_Replaced_r1, g1, hx, decide_true, cond_true, Int.natCast_nonneg, Bool.and_self, wrap1' hi (by omega)])
    (fun a _ => by simp [g_plan_Replaced_r1]) l 0 0 rfl (by omega) trivial
  have h2 := seats_mask (fun a => ((a, ()), (), ())) (l : List Co.Seat) []
  rw [word_nil] at h2
  rw [show ((0 : Nat) : Int) = 0 from rfl] at h2
  rw [h2] at h
  rw [show lfp g_plan_Replaced_r1 ((0, (l : List Co.Seat), (List.length (l : List Co.Seat) : Int), 0, ()), (), ()) = _ from h]
  simp only [Option.bind_some, List.nil_append, above_slots]

/-! ### Members -/
end Go.Co.N
end

section
namespace Go.Co.N
open Go Go.Co

/-! ### Kinds -/
end Go.Co.N
end

section
namespace Go.Co.N
open Go Go.Co

/-! ### Items -/
/-! ### Up from a leaf -/
/-- The node below a path's place. -/
def belowAt (s : Nat) : Nat → Int
  | 0 => leaf s
  | i + 1 => pathAt s i
theorem path_child : allN 64 (fun s => allN 3 fun i => (anyN 4 fun j => decide (child (pathAt s i) j = belowAt s i)) && below (belowAt s i) (leaf s) && below (pathAt s i) (leaf s)) = true := by decide +kernel
theorem pathG_at {s : Nat} (hs : s < 64) (i : Nat) (hi : i < 3) : Arr.get (pathG (s : Int)) (i : Int) = pathAt s i := by
  unfold pathG
  rw [decide_eq_true (leaf_pos.2 ⟨by omega, by omega⟩)]
  exact pathN_get _ _ hi
theorem path_at {s : Nat} (hs : s < 64) (i : Nat) (hi : i < 3) : ∃ v : Nat, pathAt (s : Int) i = v ∧ v < 21 ∧ (∃ j : Nat, j < 4 ∧ child v j = belowAt s i) ∧ below (belowAt s i) (leaf s) = true ∧ below (pathAt s i) (leaf s) = true := by
  obtain ⟨h1, h2⟩ := pathAt_in (s := (s : Int)) (by omega) (by omega) i
  obtain ⟨v, hv⟩ := Int.eq_ofNat_of_zero_le h1
  have := allN_iff.1 (allN_iff.1 path_child s hs) i hi
  simp only [Bool.and_eq_true] at this
  obtain ⟨⟨h3, h4⟩, h5⟩ := this
  obtain ⟨j, hj, h6⟩ := anyN_iff.1 h3
  simp only [decide_eq_true_eq] at h6
  exact ⟨v, hv, by omega, ⟨j, hj, by rw [← hv]; exact h6⟩, h4, h5⟩
/-- A node's key in a tree. -/
abbrev keyN (n : Tree) (v : Int) : Key := (ofT n v).1
theorem keyN_inner (n : Tree) {v : Nat} (hv : v < 21) : keyN n v = Arr.get n.Keys (v : Int) := by rw [keyN, ofT_inner n hv]
theorem keyN_leaf (n : Tree) {s : Nat} (hs : s < 64) : keyN n (leaf s) = (leafAt (ent n.Roster s) n.Epoch).1 := by
  rw [keyN, leaf_in hs, show (21 + (s : Int)) = ((21 + s : Nat) : Int) by omega, ofT_leaf n hs]
theorem good_inner {n : Tree} (hg : goodTree n = true) {v : Nat} (hv : v < 21) : good (keyN n v) = true := by
  rw [keyN_inner n hv]; exact (goodKeys_iff.1 (goodTree_iff.1 hg).2.2.2.2.1 v hv).1
theorem good_leafK {n : Tree} (hg : goodTree n = true) {s : Nat} (hs : s < 64) (hon : isOn n.Roster s = true) : good (keyN n (leaf s)) = true := by
  have h0 : (ofT n ((21 + s : Nat) : Int)).2 = 0 := by rw [ofT_leaf n hs, leafAt_on hg hs hon]
  have := (ofT_ok hg (show 21 + s < 85 by omega) h0).1
  rw [keyN, leaf_in hs, show (21 + (s : Int)) = ((21 + s : Nat) : Int) by omega]
  exact this
section
variable {t : Tree} {b : Batch} (h : (nextT t b).e = 0)
/-- A step's message. -/
def msgOf (t : Tree) (b : Batch) : Rekey := ⟨(nextT t b).t.Epoch, (nextT t b).left, (nextT t b).joined, items (nextT t b).t (nextT t b).left (nextT t b).joined⟩
theorem nextR_eq : nextR t b = bif decide ((nextT t b).e = 0) then ((nextT t b).t, msgOf t b, 0) else (zeroT, St.zero .rekey, (nextT t b).e) := rfl
include h in
theorem nextR_is : nextR t b = ((nextT t b).t, msgOf t b, 0) := by rw [nextR_eq, decide_eq_true h]; rfl
include h
/-! ### The message is right -/
theorem joined_on {x : Co.Seat} (hx : x ∈ (nextT t b).joined) : ∃ s : Nat, s < 64 ∧ x.Slot = s ∧ isOn (nextT t b).t.Roster s = true ∧ (ent (nextT t b).t.Roster s).Who = x.Who ∧ (ent (nextT t b).t.Roster s).Since = t.Epoch + 1 := by
  obtain ⟨i, s, a1, a2, hs, a3, a4, _⟩ := nx_joined_at h hx
  have := nx_room h
  exact ⟨s, hs, a3, isOn_iff.2 (by rw [a4]; simp only; omega), by rw [a4], by rw [a4]⟩
theorem left_at {x : Co.Seat} (hx : x ∈ (nextT t b).left) : x.Who ∈ b.Leaves ∧ ∃ s : Nat, s < 64 ∧ x.Slot = s ∧ isOn t.Roster s = true ∧ (ent t.Roster s).Who = x.Who := by
  rw [nx_left h] at hx
  obtain ⟨w, hw, rfl⟩ := List.mem_map.1 hx
  obtain ⟨s, hs, he, hon, hwho⟩ := (nx_leaves h).2 w hw
  exact ⟨hw, s, hs, he, hon, hwho⟩
/-! ### The message at devices -/
end
end Go.Co.N
end

section
set_option maxRecDepth 100000
noncomputable section
namespace Go.Co.N
open Go Go.Co
end Go.Co.N
end
end

section
namespace Go.Co.N
open Go Go.Co

theorem lat_app_lt {α : Type} [Inhabited α] (l : List α) (y : α) {i : Nat} (h : i < l.length) : lat (l ++ [y]) (i : Int) = lat l (i : Int) := by
  rw [lat_nat _ _ (by simp; omega), lat_nat _ _ h, List.getElem_append_left h]
theorem lat_app_last {α : Type} [Inhabited α] (l : List α) (y : α) : lat (l ++ [y]) (l.length : Int) = y := by
  rw [lat_nat _ _ (by simp)]; simp
/-- Trees of a row: each one epoch on. -/
structure Chain (t : Tree) (a : List Tree) : Prop where
  ne : 1 ≤ a.length
  ep : ∀ i : Nat, i < a.length → (lat a (i : Int)).Epoch = t.Epoch + i
  le : a.length = 1 ∨ (0 ≤ t.Epoch ∧ t.Epoch + a.length ≤ 201)
theorem nextR_ok {t : Tree} {b : Batch} (h : (nextR t b).2.2 = 0) : (nextR t b).1.Epoch = t.Epoch + 1 ∧ 0 ≤ t.Epoch ∧ t.Epoch < 200 := by
  have h0 : (nextT t b).e = 0 := by
    by_cases h0 : (nextT t b).e = 0
    · exact h0
    · have : (nextR t b).2.2 = (nextT t b).e := by unfold nextR; rw [decide_eq_false h0]; rfl
      exact this ▸ h
  have h1 : (nextR t b).1 = (nextT t b).t := by unfold nextR; rw [decide_eq_true h0]; rfl
  rw [h1]
  by_cases hg : goodTree t = true
  case neg => simp [nextT, hg] at h0
  by_cases he : t.Epoch = 200
  case pos => simp [nextT, hg, he] at h0
  by_cases hf : fits t.Roster b = 0
  case neg => simp [nextT, hg, he, hf] at h0
  by_cases hs : (stepTurn t b).2.2 = 0
  case neg => simp [nextT, hg, he, hf, hs] at h0
  by_cases hm : (stepMove t b).e = 0
  case neg => simp [nextT, hg, he, hf, hs, hm] at h0
  obtain ⟨g1, g2, _⟩ := goodTree_iff.1 hg
  refine ⟨?_, g1, by omega⟩
  simp [nextT, hg, he, hf, hs, hm]
theorem Chain.more {t : Tree} {a : List Tree} (h : Chain t a) {b : Batch} {last : Tree} (hl : lat a ((a.length : Int) - 1) = last) (hn : (nextR last b).2.2 = 0) : Chain t (a ++ [(nextR last b).1]) ∧ a.length ≤ 200 := by
  obtain ⟨n1, n2, n3⟩ := nextR_ok hn
  have h1 := h.ne
  have hle := h.ep (a.length - 1) (by omega)
  rw [show ((a.length - 1 : Nat) : Int) = (a.length : Int) - 1 by omega, hl] at hle
  have h3 := h.le
  refine ⟨⟨by simp, fun i hi => ?_, ?_⟩, by omega⟩
  · by_cases hlt : i < a.length
    · rw [lat_app_lt _ _ hlt]; exact h.ep i hlt
    · have : i = a.length := by simp at hi; omega
      subst this
      rw [lat_app_last, n1]; omega
  · right
    simp only [List.length_append, List.length_cons, List.length_nil]
    omega
end Go.Co.N
end

section
namespace Go.Co.N
open Go Go.Co

/-! ### In step -/
end Go.Co.N
end

section
namespace Go.Co.N
open Go Go.Co

/-- Trees, each made of the one before, and the messages. -/
structure Runs (trees : List Tree) (row : List Rekey) : Prop where
  len : trees.length = row.length + 1
  step : ∀ i : Nat, i < row.length → ∃ b, (nextT (lat trees (i : Int)) b).e = 0 ∧ lat trees ((i + 1 : Nat) : Int) = (nextT (lat trees (i : Int)) b).t ∧ lat row (i : Int) = msgOf (lat trees (i : Int)) b
theorem Runs.one (t : Tree) : Runs [t] [] := ⟨rfl, fun i hi => by simp at hi⟩
theorem Runs.more {trees : List Tree} {row : List Rekey} (h : Runs trees row) {b : Batch} (hn : (nextT (lat trees (row.length : Int)) b).e = 0) : Runs (trees ++ [(nextT (lat trees (row.length : Int)) b).t]) (row ++ [msgOf (lat trees (row.length : Int)) b]) := by
  have hl := h.len
  refine ⟨by simp [hl], fun i hi => ?_⟩
  simp only [List.length_append, List.length_cons, List.length_nil] at hi
  by_cases e : i = row.length
  · subst e
    refine ⟨b, ?_, ?_, ?_⟩
    · rw [lat_app_lt _ _ (by omega)]; exact hn
    · rw [show ((row.length + 1 : Nat) : Int) = (trees.length : Int) by omega, lat_app_last, lat_app_lt _ _ (by omega)]
    · rw [lat_app_last, lat_app_lt _ _ (by omega)]
  · obtain ⟨b', h1, h2, h3⟩ := h.step i (by omega)
    refine ⟨b', ?_, ?_, ?_⟩
    · rw [lat_app_lt _ _ (by omega)]; exact h1
    · rw [lat_app_lt _ _ (by omega), lat_app_lt _ _ (by omega)]; exact h2
    · rw [lat_app_lt _ _ (by omega), lat_app_lt _ _ (by omega)]; exact h3
theorem Runs.epoch {trees : List Tree} {row : List Rekey} (h : Runs trees row) : ∀ i : Nat, i ≤ row.length → (lat trees (i : Int)).Epoch = (lat trees 0).Epoch + i
  | 0, _ => by simp
  | i + 1, hi => by
    obtain ⟨b, h1, h2, _⟩ := h.step i (by omega)
    rw [h2, (nx_epoch h1).1, Runs.epoch h i (by omega)]; omega
theorem Runs.good {trees : List Tree} {row : List Rekey} (h : Runs trees row) (hr : 0 < row.length) (i : Nat) (hi : i ≤ row.length) : goodTree (lat trees (i : Int)) = true := by
  cases i with
  | zero =>
    obtain ⟨b, h1, _, _⟩ := h.step 0 hr
    exact (nextT_ok h1).1
  | succ i =>
    obtain ⟨b, h1, h2, _⟩ := h.step i (by omega)
    rw [h2]; exact nx_good h1
theorem Runs.le {trees : List Tree} {row : List Rekey} (h : Runs trees row) : row.length ≤ 200 := by
  by_cases hr : row.length = 0
  · omega
  · have h0 := h.epoch row.length (by omega)
    have hg := goodTree_iff.1 (h.good (by omega) row.length (by omega))
    have hg0 := goodTree_iff.1 (h.good (by omega) 0 (by omega))
    have : (lat trees ((0 : Nat) : Int)) = lat trees 0 := rfl
    rw [this] at hg0
    omega
section
variable {trees : List Tree} {row : List Rekey} (hR : Runs trees row) (hr : 0 < row.length) {t : Tree} {slot : Nat} (hs : slot < 64) (hon : isOn t.Roster slot = true) (picks : List Int) (hp : picks.length * 8 ≤ 140737488355328)
include hR hr hs hon hp
end
end Go.Co.N
end

section
namespace Go.Co.N
open Go Go.Co

theorem eq_key_Seal : Eqs c_key_Seal g_key_Seal := Eqs.tot fun (u, l, _) _ => by
  change Key at u l
  simp only [g_key_Seal, sealK]
  cases good u <;> cases good l <;> rfl
/-! ### Answers -/
/-! ### Taking -/
end Go.Co.N
end

section
namespace Go.Co.N
open Go Go.Co

/-! ### Brought on -/
section
variable {t last : Tree} (hgt : goodTree t = true) (hgl : goodTree last = true) (hle : t.Epoch ≤ last.Epoch) {s : Nat} (hs : s < 64) (hon : isOn t.Roster s = true)
include hgt hs hon
include hgl hle
end
end Go.Co.N
end

section
namespace Go.Co.N
open Go Go.Co

/-- The same byte k times. -/
def rep (c : Nat) : Nat → Nat
  | 0 => 0
  | k + 1 => c + 256 * rep c k
/-- A function on each byte. -/
def mapB (g : Nat → Nat) : Nat → Nat → Nat
  | 0, _ => 0
  | k + 1, x => g (x % 256) + 256 * mapB g k (x / 256)
theorem and_split (x c r : Nat) (hc : c < 256) : x &&& (c + 256 * r) = ((x % 256) &&& c) + 256 * ((x / 256) &&& r) := by
  have h1 := @Nat.and_mod_two_pow x (c + 256 * r) 8
  have h2 := @Nat.and_div_two_pow x (c + 256 * r) 8
  have e1 : (c + 256 * r) % 2 ^ 8 = c := by omega
  have e2 : (c + 256 * r) / 2 ^ 8 = r := by omega
  rw [e1] at h1; rw [e2] at h2
  have e3 : x % 2 ^ 8 = x % 256 := by omega
  have e4 : x / 2 ^ 8 = x / 256 := by omega
  rw [e3] at h1; rw [e4] at h2
  omega
theorem low85 : ∀ z, z < 256 → z &&& 85 = (z % 128) &&& 85 := by decide +kernel
theorem low51 : ∀ z, z < 256 → z &&& 51 = (z % 64) &&& 51 := by decide +kernel
def g1 (b : Nat) : Nat := ((b / 2) &&& 85) + (b &&& 85)
def g2 (b : Nat) : Nat := ((b / 4) &&& 51) + (b &&& 51)
theorem step1 : ∀ k x, ((x / 2) &&& rep 85 k) + (x &&& rep 85 k) = mapB g1 k x
  | 0, x => by simp [rep, mapB]
  | k + 1, x => by
    have ih := step1 k (x / 256)
    simp only [rep, mapB]
    rw [and_split (x / 2) 85 _ (by omega), and_split x 85 _ (by omega), low85 (x / 2 % 256) (by omega), ← ih]
    have e1 : x / 2 % 256 % 128 = x % 256 / 2 := by omega
    have e2 : x / 2 / 256 = x / 256 / 2 := by omega
    rw [e1, e2]
    unfold g1
    omega
theorem step2 : ∀ k x, ((x / 4) &&& rep 51 k) + (x &&& rep 51 k) = mapB g2 k x
  | 0, x => by simp [rep, mapB]
  | k + 1, x => by
    have ih := step2 k (x / 256)
    simp only [rep, mapB]
    rw [and_split (x / 4) 51 _ (by omega), and_split x 51 _ (by omega), low51 (x / 4 % 256) (by omega), ← ih]
    have e1 : x / 4 % 256 % 64 = x % 256 / 4 := by omega
    have e2 : x / 4 / 256 = x / 256 / 4 := by omega
    rw [e1, e2]
    unfold g2
    omega
theorem mapB_comp {f g : Nat → Nat} (hf : ∀ b, b < 256 → f b < 256) : ∀ k x, mapB g k (mapB f k x) = mapB (fun b => g (f b)) k x
  | 0, _ => rfl
  | k + 1, x => by
    simp only [mapB]
    have h := hf (x % 256) (by omega)
    rw [show (f (x % 256) + 256 * mapB f k (x / 256)) % 256 = f (x % 256) by omega, show (f (x % 256) + 256 * mapB f k (x / 256)) / 256 = mapB f k (x / 256) by omega, mapB_comp hf k]
/-- Small halves. -/
def halves (f : Nat → Nat) : Prop := ∀ b, b < 256 → f b % 16 ≤ 4 ∧ f b / 16 ≤ 4
theorem mapB_low {f : Nat → Nat} (hf : halves f) : ∀ k x, mapB f k x % 16 ≤ 4
  | 0, _ => by simp [mapB]
  | k + 1, x => by
    have := (hf (x % 256) (by omega)).1
    simp only [mapB]; omega
def g3 (b : Nat) : Nat := (b / 16 + b) % 16
theorem step3 {f : Nat → Nat} (hf : halves f) : ∀ k x, (mapB f k x / 16 + mapB f k x) &&& rep 15 k = mapB (fun b => g3 (f b)) k x
  | 0, x => by simp [rep, mapB]
  | k + 1, x => by
    have ih := step3 hf k (x / 256)
    obtain ⟨h1, h2⟩ := hf (x % 256) (by omega)
    have h3 := mapB_low hf k (x / 256)
    simp only [rep, mapB]
    rw [and_split _ 15 _ (by omega), ← ih]
    generalize f (x % 256) = A at *
    generalize mapB f k (x / 256) = Y at *
    have e1 : ((A + 256 * Y) / 16 + (A + 256 * Y)) % 256 = A / 16 + 16 * (Y % 16) + A := by omega
    have e2 : ((A + 256 * Y) / 16 + (A + 256 * Y)) / 256 = Y / 16 + Y := by omega
    rw [e1, e2, show (15 : Nat) = 2 ^ 4 - 1 from rfl, Nat.and_two_pow_sub_one_eq_mod]
    unfold g3
    omega
theorem g1_lt : ∀ b, b < 256 → g1 b < 256 := by decide +kernel
theorem g2_halves : ∀ b, b < 256 → g2 (g1 b) % 16 ≤ 4 ∧ g2 (g1 b) / 16 ≤ 4 := by decide +kernel
theorem g3_bits : ∀ b, b < 256 → g3 (g2 (g1 b)) = bits 8 b := by decide +kernel
theorem mapB_congr {f g : Nat → Nat} (h : ∀ b, b < 256 → f b = g b) : ∀ k x, mapB f k x = mapB g k x
  | 0, _ => rfl
  | k + 1, x => by simp only [mapB]; rw [h _ (by omega), mapB_congr h k]
theorem mapB_bits : ∀ k x, mapB (bits 8) (k + 1) x = bits 8 x + 256 * mapB (bits 8) k (x / 256)
  | k, x => by
    simp only [mapB]
    have := bits_mod 8 x
    rw [show (2 : Nat) ^ 8 = 256 from rfl] at this
    rw [this]
theorem mapB_lt {f : Nat → Nat} (hf : ∀ b, b < 256 → f b < 256) : ∀ k x, mapB f k x < 256 ^ k
  | 0, _ => by simp [mapB]
  | k + 1, x => by
    have h1 := hf (x % 256) (by omega)
    have h2 := mapB_lt hf k (x / 256)
    simp only [mapB, Nat.pow_succ]
    omega
theorem dig {y c r : Nat} (h : y = c + 256 * r) (hc : c < 256) : y / 256 = r := by omega
theorem sumD {R0 R1 R2 c0 c1 : Nat} (h0 : R0 = c0 + 256 * R1) (h1 : R1 = c1 + 256 * R2) : R0 + R1 = (c0 + c1) + 256 * (R1 + R2) := by omega
theorem bnd {R c r k K : Nat} (h : R = c + 256 * r) (hc : c ≤ 8) (hr : r ≤ k) (hK : 8 + 256 * k = K) : R ≤ K := by omega
theorem dig2 {y c d r : Nat} (h : y = c + 256 * (d + 256 * r)) (hc : c < 256) (hd : d < 256) : y / 65536 = r := by
  rw [show 65536 = 256 * 256 from rfl, ← Nat.div_div_eq_div_mul, dig h hc, dig rfl hd]
theorem dig4 {y a b c d r : Nat} (h : y = a + 256 * (b + 256 * (c + 256 * (d + 256 * r)))) (ha : a < 256) (hb : b < 256) (hc : c < 256) (hd : d < 256) : y / 4294967296 = r := by
  rw [show 4294967296 = 65536 * 65536 from rfl, ← Nat.div_div_eq_div_mul, dig2 h ha hb, dig2 rfl hc hd]
theorem sumS {A B C a b c : Nat} (hA : A = a + 256 * B) (hC : C = b + 256 * c) : A + C = (a + b) + 256 * (B + c) := by omega
theorem lastD {S0 S2 S4 S6 S1 S3 S5 S7 a b c d : Nat} (h0 : S0 = a + 256 * S1) (h2 : S2 = b + 256 * S3) (h4 : S4 = c + 256 * S5) (h6 : S6 = d + 256 * S7) (h : a + b + c + d < 128) : (S0 + S2 + (S4 + S6)) % 128 = a + b + c + d := by omega
theorem four {a b c d : Nat} (h1 : a ≤ 8) (h2 : b ≤ 8) (h3 : c ≤ 8) (h4 : d ≤ 8) : a + b + (c + d) < 256 := by omega
theorem eight {a b c d e f g h : Nat} (h1 : a ≤ 8) (h2 : b ≤ 8) (h3 : c ≤ 8) (h4 : d ≤ 8) (h5 : e ≤ 8) (h6 : f ≤ 8) (h7 : g ≤ 8) (h8 : h ≤ 8) : a + b + (c + d) + (e + f) + (g + h) < 128 := by omega
theorem two8 {a b : Nat} (h1 : a ≤ 8) (h2 : b ≤ 8) : a + b < 256 := by omega
theorem fold8d {c0 c1 c2 c3 c4 c5 c6 c7 R0 R1 R2 R3 R4 R5 R6 R7 : Nat} (h7 : R7 = c7) (h6 : R6 = c6 + 256 * R7) (h5 : R5 = c5 + 256 * R6) (h4 : R4 = c4 + 256 * R5) (h3 : R3 = c3 + 256 * R4) (h2 : R2 = c2 + 256 * R3) (h1 : R1 = c1 + 256 * R2) (h0 : R0 = c0 + 256 * R1)
    (b0 : c0 ≤ 8) (b1 : c1 ≤ 8) (b2 : c2 ≤ 8) (b3 : c3 ≤ 8) (b4 : c4 ≤ 8) (b5 : c5 ≤ 8) (b6 : c6 ≤ 8) (b7 : c7 ≤ 8) :
    R0 + R0 / 256 < 9223372036854775808 ∧ (R0 + R0 / 256) + (R0 + R0 / 256) / 65536 < 9223372036854775808 ∧ ((R0 + R0 / 256) + (R0 + R0 / 256) / 65536) + ((R0 + R0 / 256) + (R0 + R0 / 256) / 65536) / 4294967296 < 9223372036854775808 ∧
    (((R0 + R0 / 256) + (R0 + R0 / 256) / 65536) + ((R0 + R0 / 256) + (R0 + R0 / 256) / 65536) / 4294967296) % 128 = (c0 + c1) + (c2 + c3) + (c4 + c5) + (c6 + c7) := by
  have l7 : R7 ≤ 8 := h7 ▸ b7
  have l6 : R6 ≤ 2056 := bnd h6 b6 l7 rfl
  have l5 : R5 ≤ 526344 := bnd h5 b5 l6 rfl
  have l4 : R4 ≤ 134744072 := bnd h4 b4 l5 rfl
  have l3 : R3 ≤ 34494482440 := bnd h3 b3 l4 rfl
  have l2 : R2 ≤ 8830587504648 := bnd h2 b2 l3 rfl
  have l1 : R1 ≤ 2260630401189896 := bnd h1 b1 l2 rfl
  have l0 : R0 ≤ 578721382704613384 := bnd h0 b0 l1 rfl
  rw [dig h0 (Nat.lt_of_le_of_lt b0 (by decide))]
  have s0 := sumD h0 h1
  have s1 := sumD h1 h2
  have s2 := sumD h2 h3
  have s3 := sumD h3 h4
  have s4 := sumD h4 h5
  have s5 := sumD h5 h6
  have s6 : R6 + R7 = (c6 + c7) + 256 * R7 := by rw [h6, ← h7]; omega
  have m0 : R0 + R1 ≤ 580982013105803280 := Nat.add_le_add l0 l1
  have m1 : R1 + R2 ≤ 2269460988694544 := Nat.add_le_add l1 l2
  have m2 : R2 + R3 ≤ 8865081987088 := Nat.add_le_add l2 l3
  have m3 : R3 + R4 ≤ 34629226512 := Nat.add_le_add l3 l4
  have m4 : R4 + R5 ≤ 135270416 := Nat.add_le_add l4 l5
  have m5 : R5 + R6 ≤ 528400 := Nat.add_le_add l5 l6
  have m6 : R6 + R7 ≤ 2064 := Nat.add_le_add l6 l7
  clear h0 h1 h2 h3 h4 h5 h6 h7
  generalize R0 + R1 = S0 at *
  generalize R1 + R2 = S1 at *
  generalize R2 + R3 = S2 at *
  generalize R3 + R4 = S3 at *
  generalize R4 + R5 = S4 at *
  generalize R5 + R6 = S5 at *
  generalize R6 + R7 = S6 at *
  clear l0 l1 l2 l3 l4 l5 l6
  have s01 := s0; rw [s1] at s01
  rw [dig2 s01 (two8 b0 b1) (two8 b1 b2)]
  have u0 := sumS s0 s2
  have u1 := sumS s1 s3
  have u2 := sumS s2 s4
  have u3 := sumS s3 s5
  have e := u0; rw [u1, u2, u3] at e
  rw [dig4 e (four b0 b1 b2 b3) (four b1 b2 b3 b4) (four b2 b3 b4 b5) (four b3 b4 b5 b6)]
  refine ⟨Nat.lt_of_le_of_lt m0 (by decide), Nat.lt_of_le_of_lt (Nat.add_le_add m0 m2) (by decide), Nat.lt_of_le_of_lt (Nat.add_le_add (Nat.add_le_add m0 m2) (Nat.add_le_add m4 m6)) (by decide), ?_⟩
  exact lastD s0 s2 s4 s6 (eight b0 b1 b2 b3 b4 b5 b6 b7)
theorem fold8c {y s c0 c1 c2 c3 c4 c5 c6 c7 : Nat} (hs : s = c0 + (c1 + (c2 + (c3 + (c4 + (c5 + (c6 + c7))))))) (hy : y = c0 + 256 * (c1 + 256 * (c2 + 256 * (c3 + 256 * (c4 + 256 * (c5 + 256 * (c6 + 256 * c7)))))))
    (b0 : c0 ≤ 8) (b1 : c1 ≤ 8) (b2 : c2 ≤ 8) (b3 : c3 ≤ 8) (b4 : c4 ≤ 8) (b5 : c5 ≤ 8) (b6 : c6 ≤ 8) (b7 : c7 ≤ 8) :
    y + y / 256 < 9223372036854775808 ∧ (y + y / 256) + (y + y / 256) / 65536 < 9223372036854775808 ∧ ((y + y / 256) + (y + y / 256) / 65536) + ((y + y / 256) + (y + y / 256) / 65536) / 4294967296 < 9223372036854775808 ∧
    (((y + y / 256) + (y + y / 256) / 65536) + ((y + y / 256) + (y + y / 256) / 65536) / 4294967296) % 128 = s := by
  subst hy
  rw [hs, show c0 + (c1 + (c2 + (c3 + (c4 + (c5 + (c6 + c7)))))) = (c0 + c1) + (c2 + c3) + (c4 + c5) + (c6 + c7) by omega]
  exact fold8d rfl rfl rfl rfl rfl rfl rfl rfl b0 b1 b2 b3 b4 b5 b6 b7
/-- All bytes of a word counted into its lowest. -/
theorem fold8 (n : Nat) : let y := mapB (bits 8) 8 n
    y + y / 256 < 9223372036854775808 ∧ (y + y / 256) + (y + y / 256) / 65536 < 9223372036854775808 ∧ ((y + y / 256) + (y + y / 256) / 65536) + ((y + y / 256) + (y + y / 256) / 65536) / 4294967296 < 9223372036854775808 ∧
    (((y + y / 256) + (y + y / 256) / 65536) + ((y + y / 256) + (y + y / 256) / 65536) / 4294967296) % 128 = bits 64 n := by
  have hs : bits 64 n = bits 8 n + (bits 8 (n / 256) + (bits 8 (n / 256 / 256) + (bits 8 (n / 256 / 256 / 256) + (bits 8 (n / 256 / 256 / 256 / 256) + (bits 8 (n / 256 / 256 / 256 / 256 / 256) + (bits 8 (n / 256 / 256 / 256 / 256 / 256 / 256) + bits 8 (n / 256 / 256 / 256 / 256 / 256 / 256 / 256))))))) := by
    rw [show 64 = 8 + (8 + (8 + (8 + (8 + (8 + (8 + 8)))))) from rfl, bits_add, bits_add, bits_add, bits_add, bits_add, bits_add, bits_add]
  have b0 := bits_le 8 n
  have b1 := bits_le 8 (n / 256)
  have b2 := bits_le 8 (n / 256 / 256)
  have b3 := bits_le 8 (n / 256 / 256 / 256)
  have b4 := bits_le 8 (n / 256 / 256 / 256 / 256)
  have b5 := bits_le 8 (n / 256 / 256 / 256 / 256 / 256)
  have b6 := bits_le 8 (n / 256 / 256 / 256 / 256 / 256 / 256)
  have b7 := bits_le 8 (n / 256 / 256 / 256 / 256 / 256 / 256 / 256)
  have hy : mapB (bits 8) 8 n = bits 8 n + 256 * (bits 8 (n / 256) + 256 * (bits 8 (n / 256 / 256) + 256 * (bits 8 (n / 256 / 256 / 256) + 256 * (bits 8 (n / 256 / 256 / 256 / 256) + 256 * (bits 8 (n / 256 / 256 / 256 / 256 / 256) + 256 * (bits 8 (n / 256 / 256 / 256 / 256 / 256 / 256) + 256 * (bits 8 (n / 256 / 256 / 256 / 256 / 256 / 256 / 256)))))))) := by
    rw [mapB_bits, mapB_bits, mapB_bits, mapB_bits, mapB_bits, mapB_bits, mapB_bits, mapB_bits]
    simp [mapB]
  generalize bits 8 n = c0 at *
  generalize bits 8 (n / 256) = c1 at *
  generalize bits 8 (n / 256 / 256) = c2 at *
  generalize bits 8 (n / 256 / 256 / 256) = c3 at *
  generalize bits 8 (n / 256 / 256 / 256 / 256) = c4 at *
  generalize bits 8 (n / 256 / 256 / 256 / 256 / 256) = c5 at *
  generalize bits 8 (n / 256 / 256 / 256 / 256 / 256 / 256) = c6 at *
  generalize bits 8 (n / 256 / 256 / 256 / 256 / 256 / 256 / 256) = c7 at *
  exact fold8c hs hy b0 b1 b2 b3 b4 b5 b6 b7
theorem shr_n64 (n v : Nat) (hv : v < 64) : shrI .u64 (n : Int) (v : Int) = ((n / 2 ^ v : Nat) : Int) := by
  unfold shrI
  have : min (v : Int).toNat IntKind.u64.bits = v := by simp [IntKind.bits]; omega
  rw [this, Int.fdiv_eq_ediv_of_nonneg _ (Int.pow_nonneg (by omega))]
  simp
theorem bw_and_i64 (n : Nat) (hn : n < 9223372036854775808) : bw .and .i64 (n : Int) 127 = ((n % 128 : Nat) : Int) := by
  have e1 : BitVec.ofInt IntKind.i64.bits (n : Int) = BitVec.ofNat 64 n := by simp [IntKind.bits]
  have e2 : BitVec.ofInt IntKind.i64.bits (127 : Int) = BitVec.ofNat 64 127 := rfl
  have e3 : (BitVec.ofNat 64 n &&& BitVec.ofNat 64 127).toNat = n % 128 := by
    have h := Nat.and_two_pow_sub_one_eq_mod n 7
    rw [BitVec.toNat_and, BitVec.toNat_ofNat, BitVec.toNat_ofNat, Nat.mod_eq_of_lt (show n < 2 ^ 64 by omega)]
    exact h
  unfold bw
  simp only [e1, e2]
  show IntKind.i64.wrap (((BitVec.ofNat 64 n &&& BitVec.ofNat 64 127).toNat : Nat) : Int) = _
  rw [e3, i64_in _ (by omega)]
theorem bits_cntP (n : Nat) : ∀ d, bits d n = cntP (bitI (n : Int)) d
  | 0 => rfl
  | d + 1 => by
    rw [bits_add d 1, bits_cntP n d]
    simp only [cntP, bits]
    have : bitI (n : Int) d = decide (n / 2 ^ d % 2 = 1) := by
      unfold bitI
      rw [show ((n : Int) / 2 ^ d) = ((n / 2 ^ d : Nat) : Int) by simp]
      congr 1
      simp only [eq_iff_iff]; omega
    rw [this]
    by_cases h : n / 2 ^ d % 2 = 1
    · simp [h]
    · have h : n / 2 ^ d % 2 = 0 := by omega
      simp [h]
theorem mask85 : (6148914691236517205 : Int) = ((rep 85 8 : Nat) : Int) := by decide
theorem mask51 : (3689348814741910323 : Int) = ((rep 51 8 : Nat) : Int) := by decide
theorem mask15 : (1085102592571150095 : Int) = ((rep 15 8 : Nat) : Int) := by decide
theorem swar1 {n : Nat} (hn : n < 18446744073709551616) : IntKind.wrap IntKind.u64 (bw BinOp.and IntKind.u64 (shrI IntKind.u64 (n : Int) 1) 6148914691236517205 + bw BinOp.and IntKind.u64 (n : Int) 6148914691236517205) = ((mapB g1 8 n : Nat) : Int) := by
  have hr : rep 85 8 < 18446744073709551616 := by decide
  have hs : shrI IntKind.u64 (n : Int) 1 = ((n / 2 : Nat) : Int) := shr_n64 n 1 (by omega)
  have hl := mapB_lt g1_lt 8 n
  rw [mask85, hs, bw_and64 _ _ (by omega) hr, bw_and64 _ _ hn hr, ← Int.natCast_add, step1 8 n, Go.IntWalk.u64_in _ ⟨by omega, by omega⟩]
theorem swar2 {n : Nat} (hn : n < 18446744073709551616) (hl : mapB g2 8 n < 18446744073709551616) : IntKind.wrap IntKind.u64 (bw BinOp.and IntKind.u64 (shrI IntKind.u64 (n : Int) 2) 3689348814741910323 + bw BinOp.and IntKind.u64 (n : Int) 3689348814741910323) = ((mapB g2 8 n : Nat) : Int) := by
  have hr : rep 51 8 < 18446744073709551616 := by decide
  have hs : shrI IntKind.u64 (n : Int) 2 = ((n / 4 : Nat) : Int) := shr_n64 n 2 (by omega)
  rw [mask51, hs, bw_and64 _ _ (by omega) hr, bw_and64 _ _ hn hr, ← Int.natCast_add, step2 8 n, Go.IntWalk.u64_in _ ⟨by omega, by omega⟩]
theorem swar3 {n : Nat} {f : Nat → Nat} (hf : halves f) (hs : mapB f 8 n < 4919131752989213765) : bw BinOp.and IntKind.u64 (IntKind.wrap IntKind.u64 (shrI IntKind.u64 ((mapB f 8 n : Nat) : Int) 4 + ((mapB f 8 n : Nat) : Int))) 1085102592571150095 = ((mapB (fun b => g3 (f b)) 8 n : Nat) : Int) := by
  have hr : rep 15 8 < 18446744073709551616 := by decide
  have h4 : shrI IntKind.u64 ((mapB f 8 n : Nat) : Int) 4 = ((mapB f 8 n / 16 : Nat) : Int) := shr_n64 _ 4 (by omega)
  rw [mask15, h4, ← Int.natCast_add, Go.IntWalk.u64_in _ ⟨by omega, by omega⟩, bw_and64 _ _ (by omega) hr, step3 hf 8 n]
theorem mapB_le {f : Nat → Nat} {c : Nat} (hf : ∀ b, b < 256 → f b ≤ c) : ∀ k x, mapB f k x ≤ rep c k
  | 0, _ => by simp [mapB, rep]
  | k + 1, x => by
    have h1 := hf (x % 256) (by omega)
    have h2 := mapB_le hf k (x / 256)
    simp only [mapB, rep]
    omega
theorem g2_68 : ∀ b, b < 256 → g2 (g1 b) ≤ 68 := by decide +kernel
theorem eq_bits_OnesCount64 : Eqs c_bits_OnesCount64 g_bits_OnesCount64 := Eqs.tot fun (x, _) hf => by
  change Int at x
  have hx : 0 ≤ x ∧ x ≤ 18446744073709551615 := fine_u64.1 hf.1
  obtain ⟨n, rfl⟩ := Int.eq_ofNat_of_zero_le hx.1
  have hn : n < 18446744073709551616 := by omega
  show g_bits_OnesCount64 ((n : Int), ()) = some (cntW (n : Int), ())
  have hy := mapB_le g2_68 8 n
  have hy2 : rep 68 8 = 4919131752989213764 := by decide
  have hl1 : mapB g1 8 n < 18446744073709551616 := mapB_lt g1_lt 8 n
  have hc2 : mapB g2 8 (mapB g1 8 n) = mapB (fun b => g2 (g1 b)) 8 n := mapB_comp g1_lt 8 n
  have h3 := swar3 (f := fun b => g2 (g1 b)) g2_halves (n := n) (by omega)
  have hb : mapB (fun b => g3 (g2 (g1 b))) 8 n = mapB (bits 8) 8 n := mapB_congr g3_bits 8 n
  obtain ⟨f1, f2, f3, f4⟩ := fold8 n
  have f0 : mapB (bits 8) 8 n < 9223372036854775808 := by omega
  rw [g_bits_OnesCount64]
  rw [swar1 hn, swar2 hl1 (by rw [hc2]; omega), hc2]
  have hw : IntKind.wrap IntKind.u64 ((mapB (fun b => g2 (g1 b)) 8 n : Nat) : Int) = ((mapB (fun b => g2 (g1 b)) 8 n : Nat) : Int) := Go.IntWalk.u64_in _ ⟨by omega, by omega⟩
  rw [h3, hb]
  generalize mapB (bits 8) 8 n = Y at *
  have e8 : shrI IntKind.u64 (Y : Int) 8 = ((Y / 256 : Nat) : Int) := shr_n64 Y 8 (by omega)
  have w8 : IntKind.wrap IntKind.u64 ((Y : Int) + shrI IntKind.u64 (Y : Int) 8) = ((Y + Y / 256 : Nat) : Int) := by rw [e8, ← Int.natCast_add, Go.IntWalk.u64_in _ ⟨by omega, by omega⟩]
  rw [w8]
  generalize Y + Y / 256 = Z at *
  have e16 : shrI IntKind.u64 (Z : Int) 16 = ((Z / 65536 : Nat) : Int) := shr_n64 Z 16 (by omega)
  have w16 : IntKind.wrap IntKind.u64 ((Z : Int) + shrI IntKind.u64 (Z : Int) 16) = ((Z + Z / 65536 : Nat) : Int) := by rw [e16, ← Int.natCast_add, Go.IntWalk.u64_in _ ⟨by omega, by omega⟩]
  rw [w16]
  generalize Z + Z / 65536 = U at *
  have e32 : shrI IntKind.u64 (U : Int) 32 = ((U / 4294967296 : Nat) : Int) := shr_n64 U 32 (by omega)
  have w32 : IntKind.wrap IntKind.u64 ((U : Int) + shrI IntKind.u64 (U : Int) 32) = ((U + U / 4294967296 : Nat) : Int) := by rw [e32, ← Int.natCast_add, Go.IntWalk.u64_in _ ⟨by omega, by omega⟩]
  rw [w32, i64_in _ (by omega), bw_and_i64 _ f3, f4, bits_cntP n 64]
  unfold cntW
  rw [filter_cnt]
end Go.Co.N
end

section
namespace Go.Co.N
open Go Go.Co

theorem guardK_some {R : Type} {c : Bool} {r : Option R} {y : R} (h : guardK c r = some y) : c = true ∧ r = some y := by
  unfold guardK at h
  cases c with
  | true => exact ⟨rfl, h⟩
  | false => cases h
theorem eq_shape_Child : Eqs c_shape_Child g_shape_Child := Eqs.tot fun (v, i, _) _ => by
  change Int at v i
  show g_shape_Child (v, i, ()) = some (child v i, ())
  simp only [g_shape_Child, child]
  by_cases h1 : v < 0
  · have : ¬ (0 ≤ v ∧ v < 21 ∧ 0 ≤ i ∧ i < 4) := by omega
    simp [h1, this]
  by_cases h2 : 21 ≤ v
  · have : ¬ (0 ≤ v ∧ v < 21 ∧ 0 ≤ i ∧ i < 4) := by omega
    simp [h1, h2, this]
  by_cases h3 : i < 0
  · have : ¬ (0 ≤ v ∧ v < 21 ∧ 0 ≤ i ∧ i < 4) := by omega
    simp [h1, h2, h3, this]
  by_cases h4 : 4 ≤ i
  · have : ¬ (0 ≤ v ∧ v < 21 ∧ 0 ≤ i ∧ i < 4) := by omega
    simp [h1, h2, h3, h4, this]
  have hs : shlI IntKind.i64 v 2 = v * 4 := by
    unfold shlI
    have : min (2 : Int).toNat IntKind.i64.bits = 2 := by decide
    rw [this, i64_in _ (by omega)]
    omega
  have hc : 0 ≤ v ∧ v < 21 ∧ 0 ≤ i ∧ i < 4 := by omega
  simp only [h1, h2, h3, h4, decide_false, cond_false, hs, if_pos hc]
  rw [i64_in (v * 4 + 1) (by omega), i64_in (v * 4 + 1 + i) (by omega), show v * 4 + 1 + i = 4 * v + 1 + i by omega]
theorem eq_seats_Count : Eqs c_seats_Count g_seats_Count := Eqs.tot fun _ _ => rfl
theorem eq_seats_bit : Eqs c_seats_bit g_seats_bit := Eqs.tot fun (s, _) _ => by
  change Int at s
  show g_seats_bit (s, ()) = some (bitOf s, ())
  simp only [g_seats_bit, bitOf]
  by_cases h1 : s < 0
  · have : ¬ (0 ≤ s ∧ s < 64) := by omega
    simp [h1, this]
  by_cases h2 : 64 ≤ s
  · have : ¬ (0 ≤ s ∧ s < 64) := by omega
    simp [h1, h2, this]
  obtain ⟨n, rfl⟩ := Int.eq_ofNat_of_zero_le (show 0 ≤ s by omega)
  have hc : 0 ≤ (n : Int) ∧ (n : Int) < 64 := by omega
  simp only [h1, h2, decide_false, cond_false, if_pos hc, shl_one64 n (by omega), Int.toNat_natCast]

/-! ### Lists alike -/
/-! ### Items opened -/
/-! ### Plans' small ones -/
theorem eq_plan_nodeKey : Eqs c_plan_nodeKey g_plan_nodeKey := fun (t, v, _) y _ h => by
  change Tree at t
  change Int at v
  obtain ⟨hg, h⟩ := guardK_some h
  have hb : 0 ≤ v ∧ v ≤ 84 := betw_iff.1 hg
  obtain ⟨h0, h1⟩ := hb
  rw [← h]
  show g_plan_nodeKey (t, v, ()) = some (nodeK t v, ())
  simp only [g_plan_nodeKey, nodeK]
  by_cases hs : 0 ≤ slot v
  · have : slot v < 64 := by unfold slot; split <;> omega
    simp [hs, this]
  · have hv : v < 21 := by
      unfold slot at hs
      split at hs <;> omega
    simp [hs, h0, hv]
theorem gone_go (r : Roster) : ∀ (l : List Int) (a : List Co.Seat), foldE (Z := (List Seat × Unit) × Unit × Unit) (fun a w => Sum.inl (a ++ [⟨w, findR r w⟩])) (fun a => ((a, ()), (), ())) l a = ((a ++ goneOf r l, ()), (), ())
  | [], a => by simp [foldE, goneOf]
  | w :: l, a => by
    simp only [foldE]
    rw [gone_go r l]
    simp [goneOf]
theorem eq_plan_leavers : Eqs c_plan_leavers g_plan_leavers := fun (r, l, _) y hf h => by
  change List Int at l
  obtain ⟨hg, h⟩ := guardK_some h
  have hl : l.length ≤ 64 := of_decide_eq_true hg
  rw [← h]
  show g_plan_leavers (r, l, ()) = some (goneOf r l, ())
  simp only [g_plan_leavers]
  have hloop := lfp_list (f := g_plan_leavers_r1) l (fun i (a : List Co.Seat) => (((), a, l, (l.length : Int), (i : Int), ()), (r, ()), ()))
    (fun a w => Sum.inl (a ++ [⟨w, findR r w⟩])) (fun i _ a => a.length = i) (fun a => ((a, ()), (), ()))
    (fun i x rest a _ hi hx ha => by
      refine ⟨fun a' ha' => ?_, ?_⟩
      · simp only [Sum.inl.injEq] at ha'
        subst ha'; simp [ha]
      · have h1 : (i : Int) < (l.length : Int) := by omega
        have h2 : (a.length + 1) * 16 ≤ 140737488355328 := by omega
        simp only [g_plan_leavers_r1, h1, hx, h2, decide_true, cond_true, Int.natCast_nonneg, Bool.and_self, wrap1' hi (by omega)]
        rfl)
    (fun a _ => by simp [g_plan_leavers_r1]) l 0 [] rfl (by omega) rfl
  rw [show lfp g_plan_leavers_r1 (((), [], l, (l.length : Int), 0, ()), (r, ()), ()) = _ from hloop, gone_go]
  simp
theorem eq_roster_names : Eqs c_roster_names g_roster_names := fun (r, b, n, _) y hf h => by
  change Int at b n
  obtain ⟨hg, h⟩ := guardK_some h
  have hn : 0 ≤ n ∧ n ≤ 64 := by simpa using hg
  rw [← h]
  show g_roster_names (r, b, n, ()) = some (namesFree r b n, ())
  simp only [g_roster_names, namesFree]
  by_cases h0 : n = 0
  · simp [h0]
  by_cases h1 : b < 1
  · have : ¬ 1 ≤ b := by omega
    simp [h0, h1, this]
  have h1' : 1 ≤ b := by omega
  rw [i64_in (32768 - n) (by omega)]
  by_cases h2 : 32768 - n < b
  · have : ¬ b ≤ 32768 - n := by omega
    simp [h0, h1, h2, this]
  have h2' : b ≤ 32768 - n := by omega
  simp only [h0, h1, h2, h1', h2', decide_false, decide_true, cond_false, Bool.false_or, Bool.true_and]
  rw [lfp_find' (fun i => (((), (), 64, (i : Int), ()), (r, b, n, ()), ())) 64 (fun i => decide (b ≤ (ent r i).Base) && decide ((ent r i).Base < b + n)) (fun i => Sum.inl (((i : Int), ()), (r, b, n, ()), ())) (.inr ((), (r, b, n, ()), ())) (by rfl)
    (fun i hi hb => by
      have h1 : (i : Int) < 64 := by omega
      have hent : Arr.get r (i : Int) = ent r i := rfl
      simp only [g_roster_names_r1, h1, hent, decide_true, cond_true, Int.natCast_nonneg, Bool.and_self, wrap1 i (by omega), i64_in (b + n) (by omega)]
      cases hq : decide (b ≤ (ent r i).Base) with
      | false => rfl
      | true =>
        have : decide ((ent r i).Base < b + n) = false := by simpa [hq] using hb
        rw [this]; rfl)
    (fun i hi hb => by
      have h1 : (i : Int) < 64 := by omega
      have hent : Arr.get r (i : Int) = ent r i := rfl
      simp only [Bool.and_eq_true] at hb
      simp only [g_roster_names_r1, h1, hent, decide_true, cond_true, Int.natCast_nonneg, Bool.and_self, i64_in (b + n) (by omega), hb.1, hb.2])
    (by simp [g_roster_names_r1])]
  simp only [Option.bind_some]
  cases hx : fstN 64 (fun i => decide (b ≤ (ent r i).Base) && decide ((ent r i).Base < b + n)) 0 with
  | none =>
    have : allN 64 (fun s => !(decide (b ≤ (ent r s).Base) && decide ((ent r s).Base < b + n))) = true := allN_iff.2 fun i hi => by
      have := fstN_none hx i (by omega) (by omega)
      simp only [this, Bool.not_false]
    rw [this]; rfl
  | some i =>
    obtain ⟨_, hi, hp, _⟩ := fstN_some hx
    have : allN 64 (fun s => !(decide (b ≤ (ent r s).Base) && decide ((ent r s).Base < b + n))) = false := by
      cases hq : allN 64 (fun s => !(decide (b ≤ (ent r s).Base) && decide ((ent r s).Base < b + n))) with
      | false => rfl
      | true =>
        have := allN_iff.1 hq i (by omega)
        rw [hp] at this; cases this
    have h0 : 0 ≤ (i : Int) := by omega
    rw [this]; simp [h0]
end Go.Co.N
end

section
namespace Go.Co.N
open Go Go.Co

/-- Who was seen, once. -/
def SeenM (h : List (Int × Int)) (seen : List Int) : Prop := ∀ w, mget h w = if w ∈ seen then some 1 else none
theorem SeenM.nil : SeenM [] [] := fun w => by simp [mget]
def seeM (h : List (Int × Int)) (seen : List Int) (x : Int) : List (Int × Int) := mput h x (bif decide (x ∈ seen) then 2 else 1)
theorem SeenM.see {h : List (Int × Int)} {seen : List Int} {x : Int} (hs : SeenM h seen) (hx : x ∉ seen) : SeenM (seeM h seen x) (x :: seen) := fun w => by
  unfold seeM
  rw [mget_mput]
  simp only [hx, decide_false, cond_false, List.mem_cons]
  by_cases hw : x = w
  · subst hw; simp
  · have hw' : ¬ w = x := fun e => hw e.symm
    simp only [hw, hw', if_false, false_or]
    exact hs w
theorem SeenM.count {h : List (Int × Int)} {seen : List Int} (hs : SeenM h seen) (x : Int) : mput h x (IntKind.wrap IntKind.i64 (Option.getD (mget h x) 0 + 1)) = seeM h seen x := by
  unfold seeM
  rw [hs x]
  by_cases hx : x ∈ seen
  · simp only [hx, if_true, decide_true, cond_true, Option.getD_some]
    rw [i64_in _ (by omega)]; rfl
  · simp only [hx, if_false, decide_false, cond_false, Option.getD_none]
    rw [i64_in _ (by omega)]; rfl
theorem SeenM.twice (h : List (Int × Int)) (seen : List Int) (x : Int) : decide (1 < Option.getD (mget (seeM h seen x) x) 0) = decide (x ∈ seen) := by
  unfold seeM
  rw [mget_mput]
  by_cases hx : x ∈ seen <;> simp [hx]
section
variable {Z : Type} (r : Roster) (leaves : Bool) (fin : List (Int × Int) × List Int → Z) (err : Int → List (Int × Int) → Z)
def seeStep (a : List (Int × Int) × List Int) (x : Int) : (List (Int × Int) × List Int) ⊕ Z :=
  bif decide (personE r a.2 leaves x = 0) then Sum.inl (seeM a.1 a.2 x, x :: a.2) else Sum.inr (err (personE r a.2 leaves x) (seeM a.1 a.2 x))
theorem see_fold : ∀ (l : List Int) (h : List (Int × Int)) (seen : List Int), SeenM h seen → ∃ h', (askL r leaves l seen = 0 → SeenM h' (askSeen l seen)) ∧
    foldE (seeStep r leaves err) fin l (h, seen) = bif decide (askL r leaves l seen = 0) then fin (h', askSeen l seen) else err (askL r leaves l seen) h'
  | [], h, seen, hs => ⟨h, fun _ => by simpa [askSeen] using hs, by simp [foldE, askL, askSeen]⟩
  | w :: l, h, seen, hs => by
    simp only [foldE, askL, seeStep]
    by_cases hp : personE r seen leaves w = 0
    · simp only [hp, decide_true, cond_true]
      obtain ⟨h', h1, h2⟩ := see_fold l (seeM h seen w) (w :: seen) (hs.see (personE_0.1 hp).2.2.1)
      refine ⟨h', fun e => ?_, ?_⟩
      · have := h1 e
        simpa [askSeen] using this
      · rw [h2]; simp [askSeen]
    · refine ⟨seeM h seen w, fun e => ?_, ?_⟩
      · simp only [hp, decide_false, cond_false] at e
      · simp [hp]
end
/-- The program's round. -/
theorem see_round {b : Batch} (r : Roster) (leaves : Bool) (l : List Int) (i : Nat) (x : Int) (h : List (Int × Int)) (seen : List Int) (hi : i < l.length) (hl : l.length ≤ 9223372036854775807) (hx : lat l (i : Int) = x) (hs : SeenM h seen) :
    g_roster_Fits_r1 ((leaves, (bif leaves then 16 else 17), (), (), l, (l.length : Int), (i : Int), ()), (r, b, (), ()), h, ()) =
      some (match seeStep r leaves (fun e h => Sum.inl ((e, ()), (r, b, (), ()), h, ())) (h, seen) x with
        | .inl a' => .inl ((leaves, (bif leaves then 16 else 17), (), (), l, (l.length : Int), ((i + 1 : Nat) : Int), ()), (r, b, (), ()), a'.1, ())
        | .inr z => .inr z) := by
  have h1 : (i : Int) < (l.length : Int) := by omega
  simp only [g_roster_Fits_r1, h1, decide_true, cond_true, Int.natCast_nonneg, Bool.and_self, hx, hs.count, SeenM.twice, wrap1' hi hl]
  unfold seeStep personE
  by_cases h2 : x < 0
  · have : ¬ 0 ≤ x := by omega
    simp [h2, this]
  by_cases h3 : 256 ≤ x
  · have : ¬ x < 256 := by omega
    simp [h2, h3, this]
  have h4 : 0 ≤ x := by omega
  have h5 : x < 256 := by omega
  by_cases h6 : x ∈ seen
  · simp [h2, h3, h4, h5, h6]
  cases leaves <;> by_cases h7 : 0 ≤ findR r x <;> simp [h2, h3, h4, h5, h6, h7]
theorem see_lfp {b : Batch} (r : Roster) (leaves : Bool) (l : List Int) (h : List (Int × Int)) (seen : List Int) (hl : l.length ≤ 9223372036854775807) (hs : SeenM h seen) :
    ∃ h', (askL r leaves l seen = 0 → SeenM h' (askSeen l seen)) ∧ lfp g_roster_Fits_r1 ((leaves, (bif leaves then 16 else 17), (), (), l, (l.length : Int), 0, ()), (r, b, (), ()), h, ()) =
      some (bif decide (askL r leaves l seen = 0) then .inr ((), (r, b, (), ()), h', ()) else .inl ((askL r leaves l seen, ()), (r, b, (), ()), h', ())) := by
  obtain ⟨h', h1, h2⟩ := see_fold r leaves (fun a : List (Int × Int) × List Int => (Sum.inr ((), (r, b, (), ()), a.1, ()) : (Int × Unit) × (Vector Entry 64 × Batch × Unit × Unit) × List (Int × Int) × Unit ⊕ Unit × (Vector Entry 64 × Batch × Unit × Unit) × List (Int × Int) × Unit))
    (fun e h => Sum.inl ((e, ()), (r, b, (), ()), h, ())) l h seen hs
  refine ⟨h', h1, ?_⟩
  rw [← h2]
  exact lfp_list (f := g_roster_Fits_r1) l (fun i (a : List (Int × Int) × List Int) => ((leaves, (bif leaves then 16 else 17), (), (), l, (l.length : Int), (i : Int), ()), (r, b, (), ()), a.1, ()))
    (seeStep r leaves (fun e h => Sum.inl ((e, ()), (r, b, (), ()), h, ()))) (fun _ _ a => SeenM a.1 a.2) (fun a => .inr ((), (r, b, (), ()), a.1, ()))
    (fun i x rest a _ hi hx ha => by
      refine ⟨fun a' ha' => ?_, (see_round (b := b) r leaves l i x a.1 a.2 hi hl hx ha).trans (by cases seeStep r leaves (fun e h => (Sum.inl ((e, ()), (r, b, (), ()), h, ()) : (Int × Unit) × (Vector Entry 64 × Batch × Unit × Unit) × List (Int × Int) × Unit ⊕ Unit × (Vector Entry 64 × Batch × Unit × Unit) × List (Int × Int) × Unit)) (a.1, a.2) x <;> rfl)⟩
      unfold seeStep at ha'
      by_cases hp : personE r a.2 leaves x = 0
      · simp only [hp, decide_true, cond_true, Sum.inl.injEq] at ha'
        subst ha'
        exact ha.see (personE_0.1 hp).2.2.1
      · simp [hp] at ha')
    (fun a _ => by simp [g_roster_Fits_r1]) l 0 (h, seen) rfl (by omega) hs
theorem eq_roster_Fits : Eqs c_roster_Fits g_roster_Fits := Eqs.tot fun (r, b, _) hf => by
  change Batch at b
  have hb : Fine (.list .i) b.Leaves ∧ Fine (.list .i) b.Joins := fine_batch.1 hf.2.1
  have hL : b.Leaves.length * 8 ≤ 140737488355328 := fine_li hb.1
  have hJ : b.Joins.length * 8 ≤ 140737488355328 := fine_li hb.2
  show g_roster_Fits (r, b, ()) = some (fits r b, ())
  simp only [g_roster_Fits, fits]
  have hck : decide (chkR r = 0) = goodRoster r := by
    cases hg : goodRoster r <;> simp [chkR, hg]
  cases hg : goodRoster r with
  | false => simp [chkR, hg]
  | true =>
    rw [hck, hg]
    simp only [Bool.not_true, cond_false, cond_true]
    obtain ⟨h1, k1, k2⟩ := see_lfp (b := b) r true b.Leaves [] [] (by omega) .nil
    simp only [cond_true] at k2
    rw [k2]
    by_cases ha : askL r true b.Leaves [] = 0
    case neg => simp [ha]
    have hs1 := k1 ha
    have hc := cntW_le (taken r)
    have hl := askL_len ha
    obtain ⟨h2, k3, k4⟩ := see_lfp (b := b) r false b.Joins h1 (askSeen b.Leaves []) (by omega) hs1
    simp only [cond_false] at k4
    have hcg : ∀ (l s s' : List Int), (∀ x, x ∈ s ↔ x ∈ s') → askL r false l s = askL r false l s' := by
      intro l
      induction l with
      | nil => intro _ _ _; rfl
      | cons w l ih =>
        intro s s' hss
        have hp : personE r s false w = personE r s' false w := by simp only [personE, hss w]
        simp only [askL, hp]
        rw [ih (w :: s) (w :: s') fun x => by simp [hss x]]
    have hsw : askL r false b.Joins (askSeen b.Leaves []) = askL r false b.Joins b.Leaves := hcg _ _ _ fun x => by simp [askSeen]
    simp only [ha, decide_true, cond_true, Option.bind_some, Sum.elim_inr]
    rw [k4, hsw]
    by_cases hj : askL r false b.Joins b.Leaves = 0
    case neg => simp [hj]
    have hjl := askL_len hj
    simp only [hj, decide_true, cond_true, Option.bind_some, Sum.elim_inr]
    rw [i64_in (64 - cntW (taken r)) (by omega), i64_in _ (by omega)]
    by_cases h3 : (b.Joins.length : Int) ≤ 64 - cntW (taken r) + b.Leaves.length
    · have : ¬ 64 - cntW (taken r) + (b.Leaves.length : Int) < b.Joins.length := by omega
      simp [h3, this]
    · have : 64 - cntW (taken r) + (b.Leaves.length : Int) < b.Joins.length := by omega
      simp [h3, this]
end Go.Co.N
end

section
namespace Go.Co.N
open Go Go.Co

/-- The free slots of a roster, rising. -/
def freeR (r : Roster) : List Nat := (List.range 64).filter fun s => !isOn r s
theorem freeL_taken (r : Roster) : freeL (taken r) = freeR r := by
  unfold freeL freeR taken
  refine List.filter_congr fun i hi => ?_
  have hi : i < 64 := by simpa using hi
  rw [bitI_word]; simp [hi]
theorem freeR_len (r : Roster) : (freeR r).length = freeN r := by
  unfold freeR freeN
  rw [filter_cnt]
theorem range_split {n s : Nat} {l1 l2 : List Nat} (h : List.range n = l1 ++ s :: l2) : (∀ k, k < s → k ∈ l1) ∧ s < n ∧ (∀ x ∈ l2, x ≠ s) ∧ s ∉ l1 := by
  have hp : (l1 ++ s :: l2).Pairwise (· < ·) := h ▸ List.pairwise_lt_range
  obtain ⟨_, h2, h3⟩ := List.pairwise_append.1 hp
  have h2 := List.pairwise_cons.1 h2
  have hs : s < n := by
    have : s ∈ List.range n := by rw [h]; simp
    simpa using this
  refine ⟨fun k hk => ?_, hs, fun x hx => Nat.ne_of_gt (h2.1 x hx), fun hm => absurd (h3 s hm s (List.mem_cons_self ..)) (Nat.lt_irrefl _)⟩
  have : k ∈ List.range n := by simp; omega
  rw [h] at this
  rcases List.mem_append.1 this with hm | hm
  · exact hm
  · rcases List.mem_cons.1 hm with rfl | hm
    · omega
    · have := h2.1 k hm; omega
theorem freeR_cons {r : Roster} {s : Nat} {F : List Nat} (h : freeR r = s :: F) : s < 64 ∧ lowFree r = s ∧ ∀ e : Entry, e.Base ≠ 0 → freeR (Arr.put r (s : Int) e) = F := by
  obtain ⟨l1, l2, h1, h2, h3, h4⟩ := List.filter_eq_cons_iff.1 h
  obtain ⟨k1, k2, k3, k4⟩ := range_split h1
  have hf : isOn r s = false := by simpa using h3
  refine ⟨k2, ?_, fun e he => ?_⟩
  · have hpos : 0 < freeN r := by rw [← freeR_len, h]; simp
    obtain ⟨t, ht, e1, e2, e3⟩ := lowFree_ok hpos
    rw [e1]
    have h5 : ¬ t < s := fun hlt => by
      have := h2 t (k1 t hlt)
      rw [e2] at this; simp at this
    have h6 : ¬ s < t := fun hlt => by rw [e3 s hlt] at hf; cases hf
    omega
  · have hon : ∀ x, isOn (Arr.put r (s : Int) e) x = if s = x then true else isOn r x := fun x => by
      rw [isOn_put r k2]
      simp [he]
    unfold freeR
    rw [h1, List.filter_append, List.filter_cons]
    have e1 : l1.filter (fun x => !isOn (Arr.put r (s : Int) e) x) = [] := List.filter_eq_nil_iff.2 fun x hx => by
      rw [hon]
      split
      · simp
      · exact h2 x hx
    have e2 : l2.filter (fun x => !isOn (Arr.put r (s : Int) e) x) = F := by
      rw [← h4]
      refine List.filter_congr fun x hx => ?_
      rw [hon, if_neg (fun e => k3 x hx e.symm)]
    rw [e1, e2, hon]
    simp
/-- Joiners on these slots. -/
def joinS (since : Int) : List Int → List Nat → Int → Roster → Roster × List Seat
  | w :: ws, s :: ss, b, r => ((joinS since ws ss (b + 1) (Arr.put r (s : Int) ⟨w, b, since⟩)).1, ⟨w, (s : Int)⟩ :: (joinS since ws ss (b + 1) (Arr.put r (s : Int) ⟨w, b, since⟩)).2)
  | _, _, _, r => (r, [])
theorem joinS_eq (since : Int) : ∀ (ws : List Int) (b : Int) (r : Roster), ws.length ≤ (freeR r).length → 1 ≤ b → joinS since ws ((freeR r).take ws.length) b r = joinGo since ws b r
  | [], _, _, _, _ => by simp [joinS, joinGo]
  | w :: ws, b, r, hl, hb => by
    cases hF : freeR r with
    | nil => rw [hF] at hl; simp at hl
    | cons s F =>
      obtain ⟨h1, h2, h3⟩ := freeR_cons hF
      have h3 := h3 ⟨w, b, since⟩ (by show b ≠ 0; omega)
      rw [hF] at hl
      simp only [List.length_cons] at hl
      simp only [List.length_cons, List.take_succ_cons, joinS, joinGo, h2]
      have ih := joinS_eq since ws (b + 1) (Arr.put r (s : Int) ⟨w, b, since⟩) (by rw [h3]; omega) (by omega)
      rw [h3] at ih
      rw [ih]
abbrev JA := Roster × List Seat × List Int
def joinStep {Z : Type} (since base : Int) (a : JA) (x : Int) : JA ⊕ Z :=
  .inl (Arr.put a.1 x ⟨a.2.2.headD 0, base + (a.2.1.length : Int), since⟩, a.2.1 ++ [⟨a.2.2.headD 0, x⟩], a.2.2.tail)
theorem joinS_fold {Z : Type} (since base : Int) (fin : JA → Z) : ∀ (ws : List Int) (ss : List Nat) (acc : List Seat) (r : Roster), ws.length = ss.length →
    foldE (joinStep since base) fin (ss.map fun (i : Nat) => (i : Int)) (r, acc, ws) = fin ((joinS since ws ss (base + acc.length) r).1, acc ++ (joinS since ws ss (base + acc.length) r).2, [])
  | [], [], acc, r, _ => by simp [foldE, joinS]
  | [], _ :: _, _, _, h => by simp at h
  | _ :: _, [], _, _, h => by simp at h
  | w :: ws, s :: ss, acc, r, h => by
    simp only [List.map_cons, foldE, joinStep, joinS, List.headD_cons, List.tail_cons]
    have := joinS_fold since base fin ws ss (acc ++ [⟨w, (s : Int)⟩]) (Arr.put r (s : Int) ⟨w, base + acc.length, since⟩) (by simpa using h)
    rw [show foldE (joinStep since base) fin (ss.map fun (i : Nat) => (i : Int)) (Arr.put r (s : Int) ⟨w, base + acc.length, since⟩, acc ++ [⟨w, (s : Int)⟩], ws) = _ from this]
    simp [Int.add_assoc]
section
variable {r : Roster} {b : Batch} {since base : Int}
theorem rmove_loop1 (hc : canLeave r b.Leaves) (hl : b.Leaves.length ≤ 256) :
    lfp g_roster_Move_r1 ((since, base, (), (), (), [], (), b.Leaves, (b.Leaves.length : Int), 0, ()), (r, b, zeroR, ()), ()) = some ((since, base, (), (), (), (leaveGo b.Leaves r).2, (), ()), ((leaveGo b.Leaves r).1, b, zeroR, ()), ()) := by
  have h := lfp_list (f := g_roster_Move_r1) b.Leaves (fun i (a : List Co.Seat × Roster) => ((since, base, (), (), (), a.1, (), b.Leaves, (b.Leaves.length : Int), (i : Int), ()), (a.2, b, zeroR, ()), ()))
    (fun a w => Sum.inl (a.1 ++ [⟨w, findR a.2 w⟩], Arr.put a.2 (findR a.2 w) zeroE)) (fun i todo a => canLeave a.2 todo ∧ a.1.length = i) (fun a => ((since, base, (), (), (), a.1, (), ()), (a.2, b, zeroR, ()), ()))
    (fun i x rest a _ hi hx ⟨ha, hal⟩ => by
      obtain ⟨s, hs, he, hon, hw, hn⟩ := canLeave_next ha
      refine ⟨fun a' ha' => ?_, ?_⟩
      · simp only [Sum.inl.injEq] at ha'
        subst ha'
        simp only [he]
        exact ⟨hn, by simp [hal]⟩
      · have h1 : (i : Int) < (b.Leaves.length : Int) := by omega
        have h2 : (a.1.length + 1) * 16 ≤ 140737488355328 := by omega
        have h3 : (s : Int) < 64 := by omega
        simp only [g_roster_Move_r1, h1, hx, he, h2, h3, decide_true, cond_true, Int.natCast_nonneg, Bool.and_self, wrap1' hi (by omega)]
        rfl)
    (fun a _ => by simp [g_roster_Move_r1]) b.Leaves 0 ([], r) rfl (by omega) ⟨hc, rfl⟩
  rw [leave_fold] at h
  simpa using h
theorem rmove_loop2 {left : List Co.Seat} {z : Roster} (hr : b.Joins.length ≤ freeN r) (hb : b.Joins ≠ [] → 1 ≤ base ∧ base ≤ 32768 - b.Joins.length) :
    lfp g_roster_Move_r2 ((since, base, (), (), (), left, [], (takeW (taken r) (b.Joins.length : Int)).1, ((takeW (taken r) (b.Joins.length : Int)).1.length : Int), 0, ()), (r, b, z, ()), ()) = some (((), (), left, (joinGo since b.Joins base r).2, ()), ((joinGo since b.Joins base r).1, z, ()), ()) := by
  have hlen : b.Joins.length ≤ 64 := Nat.le_trans hr (freeN_le r)
  have hcw := cntW_taken r
  have ht : (takeW (taken r) (b.Joins.length : Int)).1 = ((freeR r).take b.Joins.length).map fun (i : Nat) => (i : Int) := by
    unfold takeW
    have h1 : ¬ (b.Joins.length : Int) < 0 := by omega
    have h2 : ¬ 64 - cntW (taken r) < (b.Joins.length : Int) := by omega
    rw [if_neg h1, if_neg h2, freeL_taken, Int.toNat_natCast]
  have hfl : ((freeR r).take b.Joins.length).length = b.Joins.length := by rw [List.length_take, freeR_len]; omega
  rw [ht]
  have hsl : (((freeR r).take b.Joins.length).map fun (i : Nat) => (i : Int)).length = b.Joins.length := by rw [List.length_map, hfl]
  have hmem : ∀ x ∈ ((freeR r).take b.Joins.length).map (fun (i : Nat) => (i : Int)), 0 ≤ x ∧ x < 64 := fun x hx => by
    obtain ⟨i, hi, rfl⟩ := List.mem_map.1 hx
    have := List.mem_of_mem_take hi
    unfold freeR at this
    simp only [List.mem_filter, List.mem_range] at this
    omega
  have h := lfp_list (f := g_roster_Move_r2) (((freeR r).take b.Joins.length).map fun (i : Nat) => (i : Int)) (fun i (a : JA) => ((since, base, (), (), (), left, a.2.1, ((freeR r).take b.Joins.length).map (fun (i : Nat) => (i : Int)), ((((freeR r).take b.Joins.length).map (fun (i : Nat) => (i : Int))).length : Int), (i : Int), ()), (a.1, b, z, ()), ()))
    (joinStep since base) (fun i todo a => a.2.1.length = i ∧ a.2.2 = b.Joins.drop i ∧ ∀ x ∈ todo, 0 ≤ x ∧ x < 64) (fun a => (((), (), left, a.2.1, ()), (a.1, z, ()), ()))
    (fun i x rest a hd hi hx ⟨ha, hal, hm⟩ => by
      have hij : i < b.Joins.length := by rw [hsl] at hi; exact hi
      obtain ⟨x0, x1⟩ := hm x (List.mem_cons_self ..)
      have hdr := List.drop_eq_getElem_cons hij
      have hh : a.2.2.headD 0 = lat b.Joins (i : Int) := by rw [hal, hdr, lat_nat _ _ hij]; rfl
      refine ⟨fun a' ha' => ?_, ?_⟩
      · simp only [joinStep, Sum.inl.injEq] at ha'
        subst ha'
        refine ⟨by simp [ha], ?_, fun y hy => hm y (List.mem_cons_of_mem _ hy)⟩
        show a.2.2.tail = _
        rw [hal, List.tail_drop]
      · have h1 : (i : Int) < (b.Joins.length : Int) := by omega
        have h2i : (i + 1) * 16 ≤ 140737488355328 := by omega
        have hb' := hb (fun e => by rw [e] at hij; simp at hij)
        have hw : IntKind.i64.wrap (base + (i : Int)) = base + (i : Int) := i64_in _ (by omega)
        simp only [g_roster_Move_r2, hsl, h1, hx, x0, x1, decide_true, cond_true, Int.natCast_nonneg, Bool.and_self, h2i, hw, ha, joinStep, hh, wrap1' hij (by omega)]
        rfl)
    (fun a _ => by simp [g_roster_Move_r2]) (((freeR r).take b.Joins.length).map fun (i : Nat) => (i : Int)) 0 (r, [], b.Joins) rfl (by omega) ⟨rfl, rfl, hmem⟩
  rw [joinS_fold since base _ b.Joins _ [] r hfl.symm] at h
  by_cases hne : b.Joins = []
  · rw [hne] at h ⊢
    simpa [joinS, joinGo] using h
  · have hb' := hb hne
    have hq := joinS_eq since b.Joins base r (by rw [freeR_len]; exact hr) hb'.1
    simp only [List.length_nil, Int.natCast_zero, Int.add_zero, List.nil_append] at h
    rw [hq] at h
    exact h
end
theorem eq_roster_Move : Eqs c_roster_Move g_roster_Move := Eqs.tot fun (r, b, since, base, _) hf => by
  change Int at since base
  change Batch at b
  have zr : (Vector.replicate 64 (St.zero St.entry) : Roster) = zeroR := rfl
  show g_roster_Move (r, b, since, base, ()) = some ((move r b since base).r, (move r b since base).left, (move r b since base).joined, (move r b since base).e, ())
  simp only [g_roster_Move, zr]
  by_cases h0 : fits r b = 0
  case neg =>
    have : move r b since base = ⟨zeroR, [], [], fits r b⟩ := by simp [move, h0]
    simp only [h0, this, decide_false, Bool.not_false, cond_true]
  obtain ⟨hroom, hJ, hL⟩ := move_room h0
  have hcl := canLeave_of (fits_ok h0).2.1
  by_cases h1 : since < 1
  · have g : ¬ 1 ≤ since := by omega
    have : move r b since base = ⟨zeroR, [], [], 19⟩ := by simp [move, h0, g]
    simp only [h0, h1, this, decide_true, Bool.not_true, cond_true, cond_false]
  by_cases h2 : 200 < since
  · have g : ¬ since ≤ 200 := by omega
    have : move r b since base = ⟨zeroR, [], [], 19⟩ := by simp [move, h0, g]
    simp only [h0, h1, h2, this, decide_true, decide_false, Bool.not_true, cond_true, cond_false]
  have g1 : 1 ≤ since := by omega
  have g2 : since ≤ 200 := by omega
  have g3 : (b.Joins.length : Int) ≤ 64 := by omega
  simp only [h0, h1, h2, g3, Int.natCast_nonneg, Bool.and_self, decide_true, decide_false, Bool.not_true, cond_true, cond_false, Option.bind_some]
  have hm : move r b since base = bif namesFree r base (b.Joins.length : Int) then moveGo r b since base else ⟨zeroR, [], [], 3⟩ := by
    unfold move
    simp only [h0, g1, g2, decide_true, cond_true, Bool.and_self]
  rw [hm]
  cases hn : namesFree r base (b.Joins.length : Int) with
  | false => rfl
  | true =>
    simp only [Bool.not_true, cond_true, cond_false]
    rw [rmove_loop1 hcl (by omega)]
    simp only [Option.bind_some]
    rw [rmove_loop2 hroom fun hne => by
      unfold namesFree at hn
      have hl : ¬ (b.Joins.length : Int) = 0 := fun e => hne (List.length_eq_zero_iff.1 (by omega))
      simp only [hl, decide_false, Bool.false_or, Bool.and_eq_true, decide_eq_true_eq] at hn
      exact hn.1]
    rfl
end Go.Co.N
end

section
namespace Go.Co.N
open Go Go.Co

theorem replaced_small (l : List Co.Seat) : 0 ≤ replaced l ∧ replaced l < 2097152 := by
  unfold replaced
  have := word_lt (fun v => l.any fun s => below v (leaf s.Slot)) 21
  have h2 : (2 : Nat) ^ 21 = 2097152 := by decide
  omega
theorem nextT_full {t : Tree} {b : Batch} (hg : goodTree t = true) (he : t.Epoch ≠ 200) (hfi : fits t.Roster b = 0)
    (hf : 32768 - cntTo (replaced (goneOf t.Roster b.Leaves)) 21 - (b.Joins.length : Int) < t.Fresh) : nextT t b = ⟨zeroT, [], [], 3⟩ := by
  obtain ⟨e0, e1, f0, f1, hk, _, hks, _⟩ := goodTree_iff.1 hg
  have hm := (replaced_small (goneOf t.Roster b.Leaves)).2
  have hc := cntTo_le (replaced (goneOf t.Roster b.Leaves)) 21
  by_cases ht : (stepTurn t b).2.2 = 0
  · have hfr := turn_fresh ht
    obtain ⟨_, _, hfree, _, _⟩ := turn_ok ht
    have hb : (stepTurn t b).2.1 = t.Fresh + cntTo (replaced (goneOf t.Roster b.Leaves)) 21 := hfr
    have hle : t.Fresh + cntTo (replaced (goneOf t.Roster b.Leaves)) 21 ≤ 32768 := by
      rcases free_cnt hfree with h0 | ⟨_, h0, _⟩ <;> omega
    have hj : ¬ (b.Joins.length : Int) = 0 := by omega
    have hlt : ¬ (t.Fresh + cntTo (replaced (goneOf t.Roster b.Leaves)) 21) ≤ 32768 - (b.Joins.length : Int) := by omega
    have hn : namesFree t.Roster (stepTurn t b).2.1 (b.Joins.length : Int) = false := by
      rw [hb]
      unfold namesFree
      rw [decide_eq_false hj, decide_eq_false hlt]
      simp
    have s1 : 1 ≤ t.Epoch + 1 := by omega
    have s2 : t.Epoch + 1 ≤ 200 := by omega
    have hmv : stepMove t b = ⟨zeroR, [], [], 3⟩ := by
      unfold stepMove move
      rw [hn]
      simp [hfi, s1, s2]
    simp [nextT, hg, he, hfi, ht, hmv]
  · have he3 : (stepTurn t b).2.2 = 3 := by
      unfold stepTurn turn at ht ⊢
      have hstp : allN 21 (fun v => inB (replaced (goneOf t.Roster b.Leaves)) v || decide (stp t.Keys v < 255)) = true := allN_iff.2 fun v hv => by
        have := (hks v hv).2
        have : stp t.Keys v < 255 := by omega
        simp [this]
      rw [hstp] at ht ⊢
      simp only [hk, hm, decide_true, cond_true] at ht ⊢
      cases hfr : free t.Keys t.Fresh (cntTo (replaced (goneOf t.Roster b.Leaves)) 21) with
      | true => rw [hfr] at ht; exact absurd rfl ht
      | false => rfl
    simp [nextT, hg, he, hfi, he3]
theorem eq_plan_step : Eqs c_plan_step g_plan_step := Eqs.tot fun (t, b, _) _ => by
  change Tree at t
  change Batch at b
  have zt : (Tree.mk 0 0 (Vector.replicate 21 (St.zero St.key)) (Vector.replicate 64 (St.zero St.entry))) = zeroT := rfl
  show g_plan_step (t, b, ()) = some ((nextT t b).t, ⟨(nextT t b).t.Epoch, (nextT t b).left, (nextT t b).joined, []⟩, (nextT t b).e, ())
  simp only [g_plan_step, zt]
  by_cases hg : goodTree t = true
  case neg =>
    have hc : ¬ chkT t = 0 := fun e => hg (chkT_0.1 e)
    have h31 : chkT t = 31 := by simp [chkT, hg]
    have : nextT t b = ⟨zeroT, [], [], 31⟩ := by simp [nextT, hg]
    simp only [this, h31]; rfl
  have hc : chkT t = 0 := chkT_0.2 hg
  by_cases he : t.Epoch = 200
  · have : nextT t b = ⟨zeroT, [], [], 19⟩ := by simp [nextT, hg, he]
    simp only [hc, he, this, decide_true, Bool.not_true, cond_true, cond_false]; rfl
  by_cases hfi : fits t.Roster b = 0
  case neg =>
    have : nextT t b = ⟨zeroT, [], [], fits t.Roster b⟩ := by simp [nextT, hg, he, hfi]
    simp only [hc, he, hfi, this, decide_true, decide_false, Bool.not_true, Bool.not_false, cond_true, cond_false]; rfl
  obtain ⟨hroom, hJ, hL⟩ := move_room hfi
  obtain ⟨e0, e1, f0, f1, hk, _, hks, _⟩ := goodTree_iff.1 hg
  have hm := replaced_small (goneOf t.Roster b.Leaves)
  have hcn := cntTo_le (replaced (goneOf t.Roster b.Leaves)) 21
  have h32 : cntTo (replaced (goneOf t.Roster b.Leaves)) 32 = cntTo (replaced (goneOf t.Roster b.Leaves)) 21 := cntTo_small hm.1 (k := 21) (by omega) 11
  simp only [hc, he, hfi, hL, decide_true, decide_false, Bool.not_true, cond_true, cond_false, Option.bind_some, h32]
  rw [i64_in (32768 - cntTo (replaced (goneOf t.Roster b.Leaves)) 21) (by omega), i64_in (32768 - cntTo (replaced (goneOf t.Roster b.Leaves)) 21 - (b.Joins.length : Int)) (by omega), i64_in (t.Epoch + 1) (by omega)]
  by_cases hfull : 32768 - cntTo (replaced (goneOf t.Roster b.Leaves)) 21 - (b.Joins.length : Int) < t.Fresh
  · rw [nextT_full hg he hfi hfull]
    simp only [hfull, decide_true, cond_true]; rfl
  simp only [hfull, decide_false, cond_false]
  have hst : turn t.Keys (replaced (goneOf t.Roster b.Leaves)) t.Fresh = stepTurn t b := rfl
  simp only [hst]
  by_cases ht : (stepTurn t b).2.2 = 0
  case neg =>
    have : nextT t b = ⟨zeroT, [], [], (stepTurn t b).2.2⟩ := by simp [nextT, hg, he, hfi, ht]
    simp only [ht, this, decide_false, Bool.not_false, cond_true]; rfl
  have hmv : move t.Roster b (t.Epoch + 1) (stepTurn t b).2.1 = stepMove t b := rfl
  simp only [ht, hmv, decide_true, Bool.not_true, cond_false]
  by_cases hme : (stepMove t b).e = 0
  case neg =>
    have : nextT t b = ⟨zeroT, [], [], (stepMove t b).e⟩ := by simp [nextT, hg, he, hfi, ht, hme]
    simp only [hme, this, decide_false, Bool.not_false, cond_true]; rfl
  have hfr : (stepTurn t b).2.1 = t.Fresh + cntTo (replaced (goneOf t.Roster b.Leaves)) 21 := turn_fresh ht
  have hjl : (stepMove t b).joined.length = b.Joins.length := by
    unfold stepMove
    rw [(move_joined hme).1, moveGo]
    exact joinGo_len _ _ _ _
  have : nextT t b = ⟨⟨t.Epoch + 1, (stepTurn t b).2.1 + (stepMove t b).joined.length, (stepTurn t b).1, (stepMove t b).r⟩, (stepMove t b).left, (stepMove t b).joined, 0⟩ := by simp [nextT, hg, he, hfi, ht, hme]
  rw [this]
  simp only [hme, decide_true, Bool.not_true, cond_false]
  rw [i64_in _ (by rw [hfr, hjl]; omega)]
end Go.Co.N
end

section
namespace Go.Co.N
open Go Go.Co

theorem belowR_leaf {r : Roster} {v : Int} (hb : belowR r v = true) (hv : 21 ≤ v) (hv2 : v < 85) : ∃ s : Nat, s < 64 ∧ v = leaf s ∧ isOn r s = true := by
  obtain ⟨s, hs, hb⟩ := anyN_iff.1 hb
  simp only [Bool.and_eq_true] at hb
  obtain ⟨k, hk⟩ := Int.eq_ofNat_of_zero_le (show 0 ≤ v - 21 by omega)
  have hvk : v = ((21 + k : Nat) : Int) := by omega
  have := allN_iff.1 (allN_iff.1 below_leaf k (by omega)) s hs
  simp only [decide_eq_true_eq] at this
  rw [hvk, this] at hb
  simp only [decide_eq_true_eq] at hb
  obtain ⟨h1, rfl⟩ := hb
  exact ⟨k, hs, by rw [leaf_in hs]; omega, h1⟩
theorem child_nat {v i : Nat} (hv : v < 21) (hi : i < 4) : child v i = ((4 * v + 1 + i : Nat) : Int) := by unfold child; rw [if_pos ⟨by omega, by omega, by omega, by omega⟩]; omega
theorem good_childT {t : Tree} (hg : goodTree t = true) {v : Nat} {i : Nat} (hv : v < 21) (hi : i < 4) (hb : belowR t.Roster (child v i) = true) : good (keyN t (child v i)) = true := by
  have hc := child_nat hv hi
  by_cases hlt : 4 * v + 1 + i < 21
  · rw [hc]; exact good_inner hg hlt
  · obtain ⟨s, hs, he, hon⟩ := belowR_leaf hb (by omega) (by omega)
    rw [he]; exact good_leafK hg hs hon
theorem nodeK_eq (t : Tree) {v : Int} (h0 : 0 ≤ v) (h1 : v ≤ 84) : nodeK t v = keyN t v := by
  obtain ⟨n, rfl⟩ := Int.eq_ofNat_of_zero_le h0
  unfold nodeK slot
  by_cases h : n < 21
  · have : ¬ (21 ≤ (n : Int) ∧ (n : Int) < 85) := by omega
    rw [if_neg this, keyN_inner t h]; rfl
  · have : 21 ≤ (n : Int) ∧ (n : Int) < 85 := by omega
    have h2 : 0 ≤ (n : Int) - 21 := by omega
    rw [if_pos this, decide_eq_true h2]
    have he : (n : Int) = leaf ((n - 21 : Nat) : Int) := by rw [leaf_in (by omega)]; omega
    have hs : (n : Int) - 21 = ((n - 21 : Nat) : Int) := by omega
    rw [hs, cond_true, he, keyN_leaf t (by omega)]
theorem maskR_below (r : Roster) (v : Int) : (!decide (bw .and .u64 (mask v) (taken r) = 0)) = belowR r v := by
  unfold taken mask belowR
  rw [word_and]
  refine bool_eq ?_
  simp only [Bool.not_eq_true', decide_eq_false_iff_not, anyN_iff]
  constructor
  · intro h
    refine Classical.byContradiction fun hn => h ?_
    have : word (fun i => below v (leaf i) && isOn r i) 64 = 0 := by
      have : word (fun i => below v (leaf i) && isOn r i) 64 = word (fun _ => false) 64 := word_congr 64 fun i hi => by
        cases hq : (below v (leaf i) && isOn r i) with
        | false => rfl
        | true => exact absurd ⟨i, hi, by rw [Bool.and_comm]; exact hq⟩ hn
      rw [this]; exact (by decide : word (fun _ => false) 64 = 0)
    rw [this]; rfl
  · rintro ⟨i, hi, hb⟩ h
    have hz : word (fun i => below v (leaf i) && isOn r i) 64 = 0 := by omega
    have := word_bit (fun i => below v (leaf i) && isOn r i) 64 i
    rw [hz] at this
    rw [Bool.and_comm] at hb
    simp [hi, hb] at this
theorem seal_item {t : Tree} {v fr : Int} (h1 : good (keyN t fr) = true) (h2 : good (keyN t v) = true) : sealK (keyN t fr) (keyN t v) = ((itemOf t v fr).Box, 0) := by
  unfold sealK itemOf
  rw [h1, h2]; rfl
section
variable {t : Tree} {m : Rekey} (hg : goodTree t = true)
include hg
theorem pitems_loop2 {M : Int} (h0 : 0 ≤ M) (h1 : M ≤ 4294967295) {acc : List Co.Item} {v : Nat} (hv : v < 21) (h : acc.length ≤ 1000) :
    lfp g_plan_items_r2 (((), (), (), taken t.Roster, M, (v : Int), 0, ()), (t, m, acc, ()), ()) = some (((), (), (), taken t.Roster, M, (v : Int), ()), (t, m, acc ++ nodeItems t M v, ()), ()) := by
  have hb : decide (bw .and .u32 (shrI .u32 M (IntKind.u64.wrap (v : Int))) 1 = 1) = inB M v := by
    rw [Go.IntWalk.u64_in _ (by omega)]; exact bit_in M v h0 h1 (by omega) (by omega)
  unfold nodeItems
  cases hin : inB M v with
  | false => rw [hin] at hb; exact lfp_inr (by simp only [g_plan_items_r2, hb, cond_false, List.append_nil])
  | true =>
    rw [hin] at hb
    rw [lfp_run' (fun i => (((), (), (), taken t.Roster, M, (v : Int), (i : Int), ()), (t, m, acc ++ kidItems t v i, ()), ())) 4 (by simp [kidItems]) fun i hi => by
      have h1 : (i : Int) < 4 := by omega
      have hl := kidItems_len t v i
      have h2 : ((acc ++ kidItems t v i).length + 1) * 48 ≤ 140737488355328 := by rw [List.length_append]; omega
      have hc := child_nat hv hi
      have b1 : betw (child v i) 0 84 = true := betw_iff.2 (by omega)
      have b2 : betw (v : Int) 0 84 = true := betw_iff.2 (by omega)
      simp only [g_plan_items_r2, hb, h1, decide_true, cond_true, wrap1 i (by omega), kidItems_succ, maskR_below]
      cases hbr : belowR t.Roster (child v i) with
      | false => simp
      | true =>
        have hs := seal_item (good_childT hg hv hi hbr) (good_inner hg hv)
        simp only [cond_true, b1, b2, Option.bind_some, nodeK_eq t (show 0 ≤ child v i by omega) (show child v i ≤ 84 by omega), nodeK_eq t (show 0 ≤ (v : Int) by omega) (show (v : Int) ≤ 84 by omega), hs, decide_true, h2]
        rw [← List.append_assoc]
        rfl]
    exact lfp_inr (by simp [g_plan_items_r2, hb, kidItems])
theorem pitems_loop1 {M : Int} (h0 : 0 ≤ M) (h1 : M ≤ 4294967295) : ∀ (n : Nat) (acc : List Co.Item), n ≤ 21 → acc.length ≤ 4 * (21 - n) →
    lfp g_plan_items_r1 (((), (), (), taken t.Roster, M, (n : Int) - 1, ()), (t, m, acc, ()), ()) = some (((), (), (), M, ()), (t, m, acc ++ itemsUp t M n, ()), ())
  | 0, acc, _, _ => by
    simp only [itemsUp, List.append_nil]
    exact lfp_inr (by simp [g_plan_items_r1])
  | n + 1, acc, hn, ha => by
    have hl := nodeItems_len t M n
    have e1 : ((n + 1 : Nat) : Int) - 1 = (n : Int) := by omega
    rw [e1, lfp_inl (x' := (((), (), (), taken t.Roster, M, (n : Int) - 1, ()), (t, m, acc ++ nodeItems t M n, ()), ())) (by
      have hw : IntKind.i64.wrap ((n : Int) - 1) = (n : Int) - 1 := i64_in _ (by omega)
      simp only [g_plan_items_r1, Int.natCast_nonneg, decide_true, cond_true, pitems_loop2 hg h0 h1 (m := m) (acc := acc) (v := n) (by omega) (by omega), Option.bind_some, hw])]
    rw [pitems_loop1 h0 h1 n (acc ++ nodeItems t M n) (by omega) (by rw [List.length_append]; omega)]
    simp [itemsUp]
theorem pitems_loop4 {M : Int} (h0 : 0 ≤ M) (h1 : M ≤ 4294967295) {acc : List Co.Item} {s : Co.Seat} {k : Nat} (hk : k < 64) (hs : s.Slot = k) (hon : isOn t.Roster k = true) {j : List Co.Seat} {d e : Int} (h : acc.length ≤ 1000) :
    lfp g_plan_items_r4 (((), (), M, (), j, d, e, pathG s.Slot, 0, ()), (t, acc, s, ()), ()) = some (((), (), M, j, d, e, ()), (t, acc ++ joinItems t M s.Slot, ()), ()) := by
  have hlf := good_leafK hg hk hon
  have b1 : betw (leaf s.Slot) 0 84 = true := betw_iff.2 (by rw [hs, leaf_in hk]; omega)
  have hl0 : 0 ≤ leaf s.Slot ∧ leaf s.Slot ≤ 84 := by rw [hs, leaf_in hk]; omega
  rw [lfp_run' (fun i => (((), (), M, (), j, d, e, pathG s.Slot, (i : Int), ()), (t, acc ++ legItems t M s.Slot i, s, ()), ())) 3 (by simp [legItems]) fun i hi => by
    have g1 : (i : Int) < 3 := by omega
    have hl := legItems_len t M s.Slot i
    have h2 : ((acc ++ legItems t M s.Slot i).length + 1) * 48 ≤ 140737488355328 := by rw [List.length_append]; omega
    obtain ⟨v, hv, hv2, _⟩ := path_at hk i hi
    have hp : Arr.get (pathG s.Slot) (i : Int) = (v : Int) := by rw [hs, pathG_at hk i hi, hv]
    have b2 : betw (v : Int) 0 84 = true := betw_iff.2 (by omega)
    have hb : decide (bw .and .u32 (shrI .u32 M (IntKind.u64.wrap (v : Int))) 1 = 0) = !inB M v := by
      rw [Go.IntWalk.u64_in _ (by omega)]
      have hq := bit_in M v h0 h1 (by omega) (by omega)
      rw [← hq]
      rw [shr_u32 M v (by omega) (by omega)]
      have hle : 0 ≤ M / 2 ^ (v : Int).toNat ∧ M / 2 ^ (v : Int).toNat ≤ 4294967295 := ⟨Int.ediv_nonneg h0 (Int.pow_nonneg (by omega)), Int.le_trans (Int.ediv_le_self _ h0) h1⟩
      rw [bw_and_one _ hle.1 hle.2]
      refine bool_eq ?_
      simp only [decide_eq_true_eq, Bool.not_eq_true', decide_eq_false_iff_not]
      omega
    simp only [g_plan_items_r4, g1, decide_true, cond_true, Int.natCast_nonneg, Bool.and_self, hp, hb, wrap1 i (by omega), legItems_succ]
    cases hin : inB M (v : Int) with
    | true => simp
    | false =>
      have hse := seal_item (t := t) (v := (v : Int)) (fr := leaf s.Slot) (by rw [hs]; exact hlf) (good_inner hg hv2)
      simp only [Bool.not_false, cond_true, b1, b2, Option.bind_some, nodeK_eq t hl0.1 hl0.2, nodeK_eq t (show 0 ≤ (v : Int) by omega) (show (v : Int) ≤ 84 by omega), hse, decide_true, h2]
      rw [← List.append_assoc]
      rfl]
  exact lfp_inr (by simp [g_plan_items_r4, legItems, joinItems])
end
theorem eq_plan_items : Eqs c_plan_items g_plan_items := fun (t, m, _) y hf h => by
  change Tree at t
  change Rekey at m
  obtain ⟨hc, h⟩ := guardK_some h
  rw [← h]
  show g_plan_items (t, m, ()) = some (items t m.Leaves m.Joins, ())
  have hc : calls t m = true := hc
  unfold calls at hc
  simp only [Bool.and_eq_true, decide_eq_true_eq, List.all_eq_true] at hc
  obtain ⟨⟨hg, hj⟩, hon⟩ := hc
  have hm := replaced_small m.Leaves
  simp only [g_plan_items]
  have h1 := pitems_loop1 hg (m := m) hm.1 (by omega) 21 [] (by omega) (by simp)
  rw [show ((21 : Nat) : Int) - 1 = 20 from rfl] at h1
  rw [h1]
  simp only [List.nil_append, Option.bind_some]
  have hu := itemsUp_len t (replaced m.Leaves) 21
  have hloop := lfp_list (f := g_plan_items_r3) m.Joins (fun i (a : List Co.Item) => (((), (), replaced m.Leaves, m.Joins, (m.Joins.length : Int), (i : Int), ()), (t, a, ()), ()))
    (fun a s => Sum.inl (a ++ joinItems t (replaced m.Leaves) s.Slot)) (fun i todo a => a.length ≤ 84 + 3 * i ∧ ∀ s ∈ todo, betw s.Slot 0 63 = true ∧ isOn t.Roster s.Slot.toNat = true) (fun a => (((), ()), (a, ()), ()))
    (fun i x rest a _ hi hx ⟨ha, hon⟩ => by
      refine ⟨fun a' ha' => ?_, ?_⟩
      · simp only [Sum.inl.injEq] at ha'
        subst ha'
        have := legItems_len t (replaced m.Leaves) x.Slot 3
        refine ⟨?_, fun s hs => hon s (List.mem_cons_of_mem _ hs)⟩
        rw [List.length_append, show joinItems t (replaced m.Leaves) x.Slot = legItems t (replaced m.Leaves) x.Slot 3 from rfl]; omega
      · have g1 : (i : Int) < (m.Joins.length : Int) := by omega
        obtain ⟨o1, o2⟩ := hon x (List.mem_cons_self ..)
        have o1 := betw_iff.1 o1
        have hl4 := pitems_loop4 hg (M := replaced m.Leaves) hm.1 (by omega) (acc := a) (s := x) (k := x.Slot.toNat) (by omega) (by omega) o2 (j := m.Joins) (d := (m.Joins.length : Int)) (e := (i : Int)) (by omega)
        simp only [g_plan_items_r3, g1, hx, decide_true, cond_true, Int.natCast_nonneg, Bool.and_self]
        rw [show (bif decide (0 ≤ leaf x.Slot) then pathN x.Slot else zero3) = pathG x.Slot from rfl, hl4]
        simp only [Option.bind_some, wrap1' hi (by omega)])
    (fun a _ => by simp [g_plan_items_r3]) m.Joins 0 (itemsUp t (replaced m.Leaves) 21) rfl (by omega) ⟨by omega, hon⟩
  rw [join_items_fold] at hloop
  rw [show lfp g_plan_items_r3 (((), (), replaced m.Leaves, m.Joins, (m.Joins.length : Int), 0, ()), (t, itemsUp t (replaced m.Leaves) 21, ()), ()) = _ from hloop]
  rfl
theorem calls_next {t : Tree} {b : Batch} (h : (nextT t b).e = 0) (e : Int) (l : List Co.Seat) (i : List Co.Item) : calls (nextT t b).t ⟨e, l, (nextT t b).joined, i⟩ = true := by
  obtain ⟨h1, _, h2, _⟩ := nextT_joined h
  unfold calls
  simp only [Bool.and_eq_true, decide_eq_true_eq, List.all_eq_true]
  refine ⟨⟨nx_good h, by rw [h1]; exact h2⟩, fun s hs => ?_⟩
  obtain ⟨k, hk, he, hon, _⟩ := joined_on h hs
  rw [he]
  exact ⟨betw_iff.2 (by omega), by rw [Int.toNat_natCast]; exact hon⟩
theorem eq_plan_Next : Eqs c_plan_Next g_plan_Next := Eqs.tot fun (t, b, _) _ => by
  change Tree at t
  change Batch at b
  show g_plan_Next (t, b, ()) = some ((nextR t b).1, (nextR t b).2.1, (nextR t b).2.2, ())
  simp only [g_plan_Next]
  by_cases h : (nextT t b).e = 0
  · rw [nextR_is h, calls_next h]
    simp only [h, decide_true, Bool.not_true, cond_true, cond_false, Option.bind_some]
    rfl
  · have hr : nextR t b = (zeroT, St.zero .rekey, (nextT t b).e) := by unfold nextR; rw [decide_eq_false h]; rfl
    simp only [h, decide_false, Bool.not_false, cond_true, hr]; rfl
end Go.Co.N
end

section
namespace Go.Co.N
open Go Go.Co

theorem inB_word {p : Nat → Bool} {v : Nat} (hv : v < 21) : inB ((word p 21 : Nat) : Int) (v : Int) = p v := by
  have := bitI_word p 21 v
  unfold bitI at this
  simp only [hv, decide_true, Bool.true_and] at this
  rw [← this]
  unfold inB
  have h0 : 0 ≤ (v : Int) := by omega
  have h1 : (v : Int) < 32 := by omega
  simp [h0, h1]
end Go.Co.N
end

section
namespace Go.Co.N
open Go Go.Co

/-- Each name from lo to hi was seen once, no other. -/
def SpanM (h : List (Int × Int)) (lo hi : Int) : Prop := ∀ x, mget h x = if lo ≤ x ∧ x < hi then some 1 else none
def seeI (h : List (Int × Int)) (x : Int) : List (Int × Int) := mput h x (IntKind.wrap IntKind.i64 (Option.getD (mget h x) 0 + 1))
theorem SpanM.nil (a : Int) : SpanM [] a a := fun x => by
  have : ¬ (a ≤ x ∧ x < a) := by omega
  rw [if_neg this]; rfl
theorem SpanM.see {h : List (Int × Int)} {lo hi x : Int} (hs : SpanM h lo hi) (hx : ¬ (lo ≤ x ∧ x < hi)) (c : Int) : mget (seeI h x) c = if x = c then some 1 else if lo ≤ c ∧ c < hi then some 1 else none := by
  unfold seeI
  rw [mget_mput, hs x, if_neg hx, hs c]
  rfl
theorem SpanM.down {h : List (Int × Int)} {lo hi : Int} (hs : SpanM h lo hi) (hle : lo ≤ hi) : SpanM (seeI h (lo - 1)) (lo - 1) hi := fun c => by
  rw [hs.see (by omega)]
  by_cases h1 : lo - 1 = c
  · rw [if_pos h1, if_pos (by omega)]
  · by_cases h2 : lo ≤ c ∧ c < hi
    · rw [if_neg h1, if_pos h2, if_pos (by omega)]
    · rw [if_neg h1, if_neg h2, if_neg (by omega)]
theorem SpanM.up {h : List (Int × Int)} {lo hi : Int} (hs : SpanM h lo hi) (hle : lo ≤ hi) : SpanM (seeI h hi) lo (hi + 1) := fun c => by
  rw [hs.see (by omega)]
  by_cases h1 : hi = c
  · rw [if_pos h1, if_pos (by omega)]
  · by_cases h2 : lo ≤ c ∧ c < hi
    · rw [if_neg h1, if_pos h2, if_pos (by omega)]
    · rw [if_neg h1, if_neg h2, if_neg (by omega)]
theorem cntTo_in {m : Int} {v : Nat} (h : inB m (v : Int) = true) : cntTo m (v + 1) = cntTo m v + 1 := by simp [cntTo, h]
theorem cntTo_out {m : Int} {v : Nat} (h : inB m (v : Int) = false) : cntTo m (v + 1) = cntTo m v := by simp [cntTo, h]
end Go.Co.N
end

section
namespace Go.Co.N
open Go Go.Co

end Go.Co.N
end

section
set_option maxRecDepth 100000
noncomputable section
namespace Go.Co.N
open Go Go.Co
end Go.Co.N
end
end

section
namespace Go.Co.N
open Go Go.Co

section
variable {t : Tree} {b : Batch} (h : (nextT t b).e = 0)
include h
end
end Go.Co.N
end

section
namespace Go.Co.N
open Go Go.Co

end Go.Co.N
end

section
namespace Go.Co.N
open Go Go.Co

section
variable {t : Tree} {b : Batch} (h : (nextT t b).e = 0)
include h
/-- A key of the new tree: a fresh one, or an old one advanced, of a node below which nobody left. -/
theorem st_of {v : Nat} (hv : v < 85) (h0 : (ofT (nextT t b).t v).2 = 0) : t.Fresh ≤ (ofT (nextT t b).t v).1.Base ∨
    ((ofT t v).2 = 0 ∧ (ofT (nextT t b).t v).1 = ⟨(ofT t v).1.Base, (ofT t v).1.Step + 1⟩ ∧ ∀ x ∈ (nextT t b).left, below v (leaf x.Slot) = false) := by
  obtain ⟨hk, hgk, hm, hfree, hstp⟩ := nx_turn h
  obtain ⟨hr1, hr2, hr3⟩ := nx_room h
  by_cases hi : v < 21
  · rw [ofT_inner _ hi, ofT_inner _ hi, hk]
    rw [turned_get _ _ _ v hi]
    by_cases hin : inB (replaced (nextT t b).left) (v : Int) = true
    · exact .inl (fresh_bounds hfree hi hin).1
    · right
      refine ⟨rfl, kept_at hin, fun x hx => ?_⟩
      rw [replaced_eq, inB_word hi] at hin
      exact Bool.eq_false_iff.2 fun hb => hin (List.any_eq_true.2 ⟨x, hx, hb⟩)
  · obtain ⟨s, rfl⟩ := Nat.exists_eq_add_of_le (show 21 ≤ v by omega)
    have hs : s < 64 := by omega
    obtain ⟨_, _, _, hc⟩ := ofT_ok (nx_good h) hv h0
    rcases hc with ⟨h1, _⟩ | ⟨k, hks, hk64, hon, he⟩
    · omega
    · have : k = s := by omega
      subst this
      rw [he]
      rcases nx_seat h k hk64 with ⟨x, hx, hxs⟩ | ⟨_, ⟨_, _, hz⟩ | ⟨hno, hz⟩⟩
      · obtain ⟨i, s', _, _, _, hs', hent, _⟩ := nx_joined_at h hx
        have : s' = k := by omega
        subst this
        left
        rw [hent]
        show t.Fresh ≤ t.Fresh + cntTo (replaced (nextT t b).left) 21 + i
        omega
      · have := isOn_iff.1 hon
        rw [hz] at this
        exact absurd rfl this
      · right
        have hont : isOn t.Roster k = true := by rw [isOn, ← hz]; exact hon
        have hg := (nextT_ok h).1
        rw [ofT_leaf t hk64, leafAt_on hg hk64 hont, hz, (nx_epoch h).1]
        refine ⟨rfl, ?_, fun x hx => ?_⟩
        · show Key.mk _ _ = Key.mk _ _
          congr 1
          show t.Epoch + 1 - (ent t.Roster k).Since = t.Epoch - (ent t.Roster k).Since + 1
          omega
        · obtain ⟨hw, s', hs', hxs, hon', hwho⟩ := left_at h hx
          rw [hxs]
          have := allN_iff.1 (allN_iff.1 below_leaf k hk64) s' hs'
          simp only [decide_eq_true_eq] at this
          rw [this]
          refine decide_eq_false fun hks => hno ⟨hont, ?_⟩
          rw [hks, hwho]; exact hw
end

/-! ### Derived keys -/
abbrev Names := List (Int × Int)
/-- Of each name the least step. -/
def addD (h : Names) (k : Key) : Names := bif !(mget h k.Base).isSome then mput h k.Base k.Step else bif decide (k.Step < (mget h k.Base).getD 0) then mput h k.Base k.Step else h
/-- Each name that is known is one of these keys. -/
def OfKeys (P : Key → Prop) (h : Names) : Prop := ∀ n s, mget h n = some s → P ⟨n, s⟩
theorem OfKeys.nil (P : Key → Prop) : OfKeys P [] := fun n s h => by simp [mget] at h
theorem OfKeys.put {P : Key → Prop} {h : Names} (hh : OfKeys P h) {k : Key} (hk : P k) : OfKeys P (mput h k.Base k.Step) := fun n s hs => by
  rw [mget_mput] at hs
  by_cases he : k.Base = n
  · rw [if_pos he] at hs
    cases hs; subst he; exact hk
  · rw [if_neg he] at hs; exact hh n s hs
theorem OfKeys.add {P : Key → Prop} {h : Names} (hh : OfKeys P h) {k : Key} (hk : P k) : OfKeys P (addD h k) := by
  unfold addD
  cases (mget h k.Base).isSome with
  | false => exact hh.put hk
  | true => cases decide (k.Step < (mget h k.Base).getD 0) with
    | true => exact hh.put hk
    | false => exact hh
end Go.Co.N
end

section
namespace Go.Co.N
open Go Go.Co

/-! ### The loops -/
/-! ### Who left -/
/-! ### Who joins -/
end Go.Co.N
end

section
namespace Go.Co.N
open Go Go.Co

end Go.Co.N
end

section
set_option maxRecDepth 100000
noncomputable section
namespace Go.Co.N
open Go Go.Co
end Go.Co.N
end
end

section
namespace Go.Co.N
open Go Go.Co

/-! ### Seats' nodes -/
/-! ### Refusals -/
theorem nextT_succ {t : Tree} {b : Batch} (hg : goodTree t = true) (he : t.Epoch ≠ 200) (hfi : fits t.Roster b = 0)
    (hroom : t.Fresh + cntTo (replaced (goneOf t.Roster b.Leaves)) 21 + (b.Joins.length : Int) ≤ 32768) : (nextT t b).e = 0 := by
  obtain ⟨e0, e1, f0, f1, hk, _, hks, hss⟩ := goodTree_iff.1 hg
  have hm := replaced_small (goneOf t.Roster b.Leaves)
  have hc := cntTo_le (replaced (goneOf t.Roster b.Leaves)) 21
  have hfr : free t.Keys t.Fresh (cntTo (replaced (goneOf t.Roster b.Leaves)) 21) = true := by
    unfold free
    have h1 : (1 : Int) ≤ t.Fresh := by omega
    have h2 : t.Fresh ≤ 32768 - cntTo (replaced (goneOf t.Roster b.Leaves)) 21 := by omega
    have h3 : allN 21 (fun v => !(decide (t.Fresh ≤ bas t.Keys v) && decide (bas t.Keys v < t.Fresh + cntTo (replaced (goneOf t.Roster b.Leaves)) 21))) = true := allN_iff.2 fun v hv => by
      have := (hks v hv).1
      have h4 : ¬ t.Fresh ≤ bas t.Keys v := by omega
      simp [h4]
    rw [h3, decide_eq_true h1, decide_eq_true h2]; simp
  have hstp : allN 21 (fun v => inB (replaced (goneOf t.Roster b.Leaves)) v || decide (stp t.Keys v < 255)) = true := allN_iff.2 fun v hv => by
    have := (hks v hv).2
    have : stp t.Keys v < 255 := by omega
    simp [this]
  have ht : (stepTurn t b).2.2 = 0 := by
    unfold stepTurn turn
    rw [hstp, hfr]
    simp [hk, hm.2]
  have hfs : (stepTurn t b).2.1 = t.Fresh + cntTo (replaced (goneOf t.Roster b.Leaves)) 21 := turn_fresh ht
  have hnf : namesFree t.Roster (stepTurn t b).2.1 (b.Joins.length : Int) = true := by
    rw [hfs]
    unfold namesFree
    have h1 : (1 : Int) ≤ t.Fresh + cntTo (replaced (goneOf t.Roster b.Leaves)) 21 := by omega
    have h2 : t.Fresh + cntTo (replaced (goneOf t.Roster b.Leaves)) 21 ≤ 32768 - (b.Joins.length : Int) := by omega
    have h3 : allN 64 (fun s => !(decide (t.Fresh + cntTo (replaced (goneOf t.Roster b.Leaves)) 21 ≤ (ent t.Roster s).Base) && decide ((ent t.Roster s).Base < t.Fresh + cntTo (replaced (goneOf t.Roster b.Leaves)) 21 + (b.Joins.length : Int)))) = true := allN_iff.2 fun s hs => by
      have := (hss s hs).1
      have h4 : ¬ t.Fresh + cntTo (replaced (goneOf t.Roster b.Leaves)) 21 ≤ (ent t.Roster s).Base := by omega
      simp [h4]
    rw [h3, decide_eq_true h1, decide_eq_true h2]; simp
  have s1 : 1 ≤ t.Epoch + 1 := by omega
  have s2 : t.Epoch + 1 ≤ 200 := by omega
  have hmv : (stepMove t b).e = 0 := by
    unfold stepMove move
    rw [hnf]
    simp [hfi, s1, s2, moveGo]
  simp [nextT, hg, he, hfi, ht, hmv]
def whoOf (x : Int) : Int := IntKind.wrap IntKind.i64 (Int.tmod (IntKind.wrap IntKind.u64 x) 256)
theorem whoOf_in (x : Int) : 0 ≤ whoOf x ∧ whoOf x < 256 := tmod_wrap x 256 (by omega) (by omega)
/-- The people that are taken of a list. -/
structure Picked (r : Roster) (on : Bool) (base l : List Int) (h : Names) : Prop where
  nodup : l.Nodup
  mem : ∀ w ∈ l, 0 ≤ w ∧ w < 256 ∧ w ∉ base ∧ (0 ≤ findR r w ↔ on = true)
  seen : ∀ w, (mget h w).getD 0 = 0 ↔ w ∉ base ∧ w ∉ l
def pickS (r : Roster) (on : Bool) (a : List Int × Names) (x : Int) : List Int × Names :=
  bif decide ((mget a.2 (whoOf x)).getD 0 = 0) && (bif on then decide (0 ≤ findR r (whoOf x)) else decide (findR r (whoOf x) < 0)) then (a.1 ++ [whoOf x], mput a.2 (whoOf x) 1) else a
theorem Picked.step {r : Roster} {on : Bool} {base l : List Int} {h : Names} (hp : Picked r on base l h) (x : Int) : Picked r on base (pickS r on (l, h) x).1 (pickS r on (l, h) x).2 := by
  unfold pickS
  cases hc : (decide ((mget h (whoOf x)).getD 0 = 0) && (bif on then decide (0 ≤ findR r (whoOf x)) else decide (findR r (whoOf x) < 0))) with
  | false => exact hp
  | true =>
    simp only [Bool.and_eq_true, decide_eq_true_eq] at hc
    obtain ⟨h1, h2⟩ := hc
    obtain ⟨h3, h4⟩ := (hp.seen _).1 h1
    have hw := whoOf_in x
    refine ⟨?_, fun w hw' => ?_, fun w => ?_⟩
    · show (l ++ [whoOf x]).Nodup
      rw [List.nodup_append]
      exact ⟨hp.nodup, by simp, fun a ha b hb => by simp at hb; subst hb; rintro rfl; exact h4 ha⟩
    · have hw' : w ∈ l ++ [whoOf x] := hw'
      rcases List.mem_append.1 hw' with hw' | hw'
      · exact hp.mem w hw'
      · simp at hw'; subst hw'
        refine ⟨hw.1, hw.2, h3, ?_⟩
        cases on with
        | true => simpa using h2
        | false =>
          have h2 : findR r (whoOf x) < 0 := by simpa using h2
          constructor
          · intro; omega
          · intro h; cases h
    · show (mget (mput h (whoOf x) 1) w).getD 0 = 0 ↔ w ∉ base ∧ w ∉ l ++ [whoOf x]
      rw [mget_mput]
      by_cases he : whoOf x = w
      · rw [if_pos he]
        subst he
        simp
      · rw [if_neg he, hp.seen]
        simp only [List.mem_append, List.mem_singleton, not_or]
        exact ⟨fun ⟨a, b⟩ => ⟨a, b, fun e => he e.symm⟩, fun ⟨a, b, _⟩ => ⟨a, b⟩⟩
theorem Picked.len {r : Roster} {on : Bool} {base l : List Int} {h : Names} (hp : Picked r on base l h) : l.length ≤ 256 := nodup_le 256 l hp.nodup fun x hx => by
  obtain ⟨h1, h2, _⟩ := hp.mem x hx
  exact ⟨h1, h2⟩
theorem Picked.all {r : Roster} {on : Bool} {base : List Int} : ∀ (xs : List Int) (a : List Int × Names), Picked r on base a.1 a.2 → Picked r on base (xs.foldl (pickS r on) a).1 (xs.foldl (pickS r on) a).2
  | [], _, hp => hp
  | x :: xs, (_, _), hp => Picked.all xs _ (hp.step x)
end Go.Co.N
end

section
namespace Go.Co.N
open Go Go.Co

/-! ### The order of leavers does not matter -/
theorem any_perm {α : Type} {p : α → Bool} {l k : List α} (h : l.Perm k) : l.any p = k.any p := by
  apply bool_eq
  rw [List.any_eq_true, List.any_eq_true]
  exact ⟨fun ⟨x, hx, hp⟩ => ⟨x, h.mem_iff.1 hx, hp⟩, fun ⟨x, hx, hp⟩ => ⟨x, h.mem_iff.2 hx, hp⟩⟩
section
variable {t : Tree} {b B : Batch} (h : (nextT t b).e = 0) (hl : B.Leaves.Perm b.Leaves) (hj : B.Joins = b.Joins)
include h hl hj
theorem perm_fits : fits t.Roster B = 0 := by
  obtain ⟨_, _, hfi, _, _, _⟩ := nextT_ok h
  obtain ⟨h1, h2, h3, h4⟩ := fits_ok hfi
  have k1 : askL t.Roster true B.Leaves [] = 0 := by
    obtain ⟨a1, a2⟩ := askL_iff.1 h2
    exact askL_iff.2 ⟨fun w hw => a1 w (hl.mem_iff.1 hw), hl.nodup_iff.2 a2⟩
  have k2 : askL t.Roster false B.Joins B.Leaves = 0 := by
    obtain ⟨a1, a2⟩ := askL_iff.1 h3
    rw [hj]
    exact askL_iff.2 ⟨fun w hw => by
      obtain ⟨c1, c2, c3, c4⟩ := a1 w hw
      exact ⟨c1, c2, fun hm => c3 (hl.mem_iff.1 hm), c4⟩, a2⟩
  have k3 : decide ((B.Joins.length : Int) ≤ 64 - cntW (taken t.Roster) + B.Leaves.length) = true := decide_eq_true (by rw [hj, hl.length_eq]; exact h4)
  unfold fits
  rw [h1, k1, k2, k3]
  rfl
omit h hj in
theorem perm_replaced : replaced (goneOf t.Roster B.Leaves) = replaced (goneOf t.Roster b.Leaves) := by
  have hp : (goneOf t.Roster B.Leaves).Perm (goneOf t.Roster b.Leaves) := hl.map _
  unfold replaced
  congr 1
  exact word_congr 21 fun v _ => any_perm hp
theorem perm_ok : (nextT t B).e = 0 := by
  obtain ⟨hg, hep, _, _, _, _⟩ := nextT_ok h
  have hr := nx_room h
  have hf := nx_fresh h
  rw [nx_left h] at hf
  refine nextT_succ hg (by omega) (perm_fits h hl hj) ?_
  rw [perm_replaced (t := t) hl, hj]
  omega
theorem perm_left : (leaveGo B.Leaves t.Roster).1 = (leaveGo b.Leaves t.Roster).1 := by
  obtain ⟨_, _, hfi, _, _, _⟩ := nextT_ok h
  have h1 := fits_ok hfi
  have h2 := fits_ok (perm_fits h hl hj)
  have hg := goodR_iff.1 h1.1
  have e1 := (leave_all _ _ (canLeave_of h1.2.1) hg).2
  have e2 := (leave_all _ _ (canLeave_of h2.2.1) hg).2
  refine arr_ext fun i h0 h64 => ?_
  obtain ⟨k, rfl⟩ : ∃ k : Nat, i = k := ⟨i.toNat, by omega⟩
  have a1 := e1 k (by omega)
  have a2 := e2 k (by omega)
  have hm : (ent t.Roster k).Who ∈ B.Leaves ↔ (ent t.Roster k).Who ∈ b.Leaves := hl.mem_iff
  simp only [hm] at a2
  exact a2.trans a1.symm
theorem perm_next : (nextT t B).t = (nextT t b).t ∧ (nextT t B).joined = (nextT t b).joined := by
  have hB := perm_ok h hl hj
  obtain ⟨_, _, _, ht, hm, he⟩ := nextT_ok h
  obtain ⟨_, _, _, htB, hmB, heB⟩ := nextT_ok hB
  have ert : stepTurn t B = stepTurn t b := by unfold stepTurn; rw [perm_replaced (t := t) hl]
  have erm : (stepMove t B).r = (stepMove t b).r ∧ (stepMove t B).joined = (stepMove t b).joined := by
    rw [show stepMove t b = _ from (move_joined hm).1, show stepMove t B = _ from (move_joined hmB).1]
    unfold moveGo
    simp only
    rw [perm_left h hl hj, ert, hj]
    exact ⟨rfl, rfl⟩
  rw [he, heB, ert, erm.1, erm.2, hj]
  exact ⟨rfl, rfl⟩
end

/-! ### What two trees tell -/
/-- Who left, seat by seat. -/
def leftL (a b : Roster) : List Int := ((List.range 64).filter fun (s : Nat) => !decide (ent a s = ent b s) && isOn a s).map fun (s : Nat) => (ent a s).Who
/-- Who came, seat by seat. -/
def cameL (a b : Roster) : List Entry := ((List.range 64).filter fun (s : Nat) => !decide (ent a s = ent b s) && isOn b s).map fun (s : Nat) => ent b s
theorem nodup_map {α β : Type} {f : α → β} : ∀ {l : List α}, l.Nodup → (∀ x ∈ l, ∀ y ∈ l, f x = f y → x = y) → (l.map f).Nodup
  | [], _, _ => List.nodup_nil
  | a :: l, h, hi => by
    obtain ⟨h1, h2⟩ := List.nodup_cons.1 h
    rw [List.map_cons, List.nodup_cons]
    refine ⟨fun hm => ?_, nodup_map h2 fun x hx y hy => hi x (List.mem_cons_of_mem _ hx) y (List.mem_cons_of_mem _ hy)⟩
    obtain ⟨x, hx, he⟩ := List.mem_map.1 hm
    have := hi x (List.mem_cons_of_mem _ hx) a (List.mem_cons_self ..) he
    subst this
    exact h1 hx
theorem mem_leftL {a b : Roster} {w : Int} : w ∈ leftL a b ↔ ∃ s : Nat, s < 64 ∧ ent a s ≠ ent b s ∧ isOn a s = true ∧ (ent a s).Who = w := by
  unfold leftL
  simp only [List.mem_map, List.mem_filter, List.mem_range, Bool.and_eq_true, Bool.not_eq_true', decide_eq_false_iff_not]
  exact ⟨fun ⟨s, ⟨h1, h2, h3⟩, h4⟩ => ⟨s, h1, h2, h3, h4⟩, fun ⟨s, h1, h2, h3, h4⟩ => ⟨s, ⟨h1, h2, h3⟩, h4⟩⟩
theorem mem_cameL {a b : Roster} {e : Entry} : e ∈ cameL a b ↔ ∃ s : Nat, s < 64 ∧ ent a s ≠ ent b s ∧ isOn b s = true ∧ ent b s = e := by
  unfold cameL
  simp only [List.mem_map, List.mem_filter, List.mem_range, Bool.and_eq_true, Bool.not_eq_true', decide_eq_false_iff_not]
  exact ⟨fun ⟨s, ⟨h1, h2, h3⟩, h4⟩ => ⟨s, h1, h2, h3, h4⟩, fun ⟨s, h1, h2, h3, h4⟩ => ⟨s, ⟨h1, h2, h3⟩, h4⟩⟩
theorem range_nodup (n : Nat) (p : Nat → Bool) : ((List.range n).filter p).Nodup := List.nodup_range.sublist List.filter_sublist
theorem nodup_leftL {a b : Roster} (h : GoodR a) : (leftL a b).Nodup := nodup_map (range_nodup _ _) fun x hx y hy he => by
  simp only [List.mem_filter, List.mem_range, Bool.and_eq_true] at hx hy
  exact h.who x y hx.1 hy.1 hx.2.2 hy.2.2 he
theorem nodup_cameL {a b : Roster} (h : GoodR b) : (cameL a b).Nodup := nodup_map (range_nodup _ _) fun x hx y hy he => by
  simp only [List.mem_filter, List.mem_range, Bool.and_eq_true] at hx hy
  exact h.base x y hx.1 hy.1 hx.2.2 hy.2.2 (by rw [he])

section
variable {t : Tree} {b : Batch} (h : (nextT t b).e = 0)
include h
theorem nx_base {k : Nat} (hk : k < 64) : (ent t.Roster k).Base < t.Fresh := (((goodTree_iff.1 (nextT_ok h).1).2.2.2.2.2.2.2) k hk).1
theorem nx_new {x : Co.Seat} (hx : x ∈ (nextT t b).joined) : ∃ s : Nat, s < 64 ∧ x.Slot = s ∧ ent t.Roster s ≠ ent (nextT t b).t.Roster s ∧ t.Fresh ≤ (ent (nextT t b).t.Roster s).Base := by
  obtain ⟨i, s, h1, h2, hs, h3, h4, _⟩ := nx_joined_at h hx
  have hb := nx_base h hs
  have hc := cntTo_le (replaced (nextT t b).left) 21
  refine ⟨s, hs, h3, fun he => ?_, by rw [h4]; simp only; omega⟩
  rw [he, h4] at hb
  simp only at hb
  omega
theorem left_perm : (leftL t.Roster (nextT t b).t.Roster).Perm b.Leaves := by
  have hg := goodR_iff.1 (goodTree_iff.1 (nextT_ok h).1).2.2.2.2.2.1
  refine (List.perm_ext_iff_of_nodup (nodup_leftL hg) (nx_leaves h).1).2 fun w => ?_
  rw [mem_leftL]
  constructor
  · rintro ⟨s, hs, hne, hon, rfl⟩
    rcases nx_seat h s hs with ⟨x, hx, hxs⟩ | ⟨_, ⟨_, hm, _⟩ | ⟨_, he⟩⟩
    · obtain ⟨i, k, _, _, hk, h3, _, h5⟩ := nx_joined_at h hx
      have : k = s := by omega
      subst this
      exact h5 hon
    · exact hm
    · exact absurd he.symm hne
  · intro hw
    obtain ⟨s, hs, _, hon, hwho⟩ := (nx_leaves h).2 w hw
    refine ⟨s, hs, fun he => ?_, hon, hwho⟩
    rcases nx_seat h s hs with ⟨x, hx, hxs⟩ | ⟨_, ⟨_, _, hz⟩ | ⟨hn, _⟩⟩
    · obtain ⟨k, hk, h3, h4, _⟩ := nx_new h hx
      have : k = s := by omega
      subst this
      exact h4 he
    · rw [hz] at he
      exact isOn_iff.1 hon (by rw [he])
    · exact hn ⟨hon, by rw [hwho]; exact hw⟩
/-- The joiners' entries, in their order. -/
def joinE (t : Tree) (b : Batch) : List Entry := (List.range b.Joins.length).map fun (i : Nat) => ⟨b.Joins.getD i 0, t.Fresh + cntTo (replaced (nextT t b).left) 21 + i, t.Epoch + 1⟩
omit h in
theorem mem_joinE {e : Entry} : e ∈ joinE t b ↔ ∃ i : Nat, i < b.Joins.length ∧ e = ⟨b.Joins.getD i 0, t.Fresh + cntTo (replaced (nextT t b).left) 21 + i, t.Epoch + 1⟩ := by
  unfold joinE
  simp only [List.mem_map, List.mem_range]
  exact ⟨fun ⟨i, h1, h2⟩ => ⟨i, h1, h2.symm⟩, fun ⟨i, h1, h2⟩ => ⟨i, h1, h2.symm⟩⟩
omit h in
theorem joinE_lt : (joinE t b).Pairwise fun x y => x.Base < y.Base := by
  unfold joinE
  refine List.Pairwise.map _ (fun i j hij => ?_) List.pairwise_lt_range
  show _ + (i : Int) < _ + (j : Int)
  omega
theorem came_perm : (cameL t.Roster (nextT t b).t.Roster).Perm (joinE t b) := by
  have hR := nx_roster h
  refine (List.perm_ext_iff_of_nodup (nodup_cameL hR) (joinE_lt.imp fun hlt he => by subst he; omega)).2 fun e => ?_
  rw [mem_cameL, mem_joinE]
  constructor
  · rintro ⟨s, hs, hne, hon, rfl⟩
    rcases nx_seat h s hs with ⟨x, hx, hxs⟩ | ⟨_, ⟨_, _, hz⟩ | ⟨_, he⟩⟩
    · obtain ⟨i, k, h1, h2, hk, h3, h4, _⟩ := nx_joined_at h hx
      have : k = s := by omega
      subst this
      refine ⟨i, h2, ?_⟩
      rw [h4, List.getD_eq_getElem?_getD, h1]
      rfl
    · exact absurd (by rw [hz]) (isOn_iff.1 hon)
    · exact absurd he.symm hne
  · rintro ⟨i, hi, rfl⟩
    obtain ⟨s, hs, h1, h2, h3⟩ := (nx_moved h).1 i b.Joins[i] (List.getElem?_eq_getElem hi)
    have hx := List.mem_of_getElem? h1
    obtain ⟨k, hk, h4, h5, h6⟩ := nx_new h hx
    have : k = s := by simp only at h4; omega
    subst this
    refine ⟨k, hk, h5, isOn_iff.2 ?_, ?_⟩
    · have := (nx_room h).2.1; omega
    · rw [h2, List.getD_eq_getElem?_getD, List.getElem?_eq_getElem hi]
      rfl
omit h in
theorem joinE_who : (joinE t b).map (·.Who) = b.Joins := by
  apply List.ext_getElem
  · simp [joinE]
  · intro i h1 h2
    simp [joinE, List.getElem?_eq_getElem h2]
/-- However those who came are sorted by their names: it is the batch's order. -/
theorem sorted_joins {l : List Entry} (hp : l.Perm (cameL t.Roster (nextT t b).t.Roster)) (hs : l.Pairwise fun x y => x.Base ≤ y.Base) : l.map (·.Who) = b.Joins := by
  have hq := hp.trans (came_perm h)
  have : l = joinE t b := by
    refine List.Perm.eq_of_pairwise (le := fun x y => x.Base ≤ y.Base) (fun x y hx hy h1 h2 => ?_) hs (joinE_lt.imp fun h => by omega) hq
    obtain ⟨i, hi, rfl⟩ := mem_joinE.1 (hq.mem_iff.1 hx)
    obtain ⟨j, hj, rfl⟩ := mem_joinE.1 hy
    simp only at h1 h2
    have : i = j := by omega
    subst this
    rfl
  rw [this, joinE_who]
/-- The batch that the trees tell leads there. -/
theorem came_leads {B : Batch} {l : List Entry} (h1 : B.Leaves = leftL t.Roster (nextT t b).t.Roster) (h2 : B.Joins = l.map (·.Who)) (hp : l.Perm (cameL t.Roster (nextT t b).t.Roster)) (hs : l.Pairwise fun x y => x.Base ≤ y.Base) :
    (nextT t B).e = 0 ∧ (nextT t B).t = (nextT t b).t := by
  have hl : B.Leaves.Perm b.Leaves := by rw [h1]; exact left_perm h
  have hj : B.Joins = b.Joins := by rw [h2]; exact sorted_joins h hp hs
  exact ⟨perm_ok h hl hj, (perm_next h hl hj).1⟩
end
end Go.Co.N
end

section
namespace Go.Co
open Go.RowKit Go.Sort Go.Proofs Go.Shelf

/-- A sort: the function, the comparing function, the elements' kind, what the comparing function answers. -/
structure SortD where
  f : Nat
  g : Nat
  t : Ty
  cf : t.den → t.den → Int
/-- What Go's sort makes of a list. -/
def sortL {α : Type} [Inhabited α] (cf : α → α → Int) (l : List α) : List α := (pdq (ltOf cf) l.toArray 0 l.length (Lib.bitLen l.length) true true).toList
def findD : List SortD → Nat → Option SortD
  | [], _ => none
  | d :: r, n => match Nat.beq n d.f with | true => some d | false => findD r n
section
variable {R : Type}
/-- A call of a sort, else another handler's. -/
def sortH (D : List SortD) (inl : (R : Type) → Nat → List AV → Mem → Nat → KO R → Option R) (R : Type) (f : Nat) (vs : List AV) (m : Mem) (nx : Nat) (K : KO R) : Option R :=
  match findD D f with
  | none => inl R f vs m nx K
  | some d => match vs with
    | [.sl b, .fn g []] => match Nat.beq g d.g, m b with
      | true, .slab u xs => match cast? (.list u) (.list d.t) xs with
        | some xs => K (.tup .nil) (m.put b (.slab d.t (sortL d.cf xs))) nx
        | none => none
      | _, _ => none
    | [.ssl b lo hi, .fn g []] => match Nat.beq g d.g, m b with
      | true, .slab u xs => match cast? (.list u) (.list d.t) xs with
        | some xs => guardK (decide (0 ≤ lo) && decide (lo ≤ hi) && decide (hi ≤ (List.length xs : Int))) (K (.tup .nil) (m.put b (.slab d.t (List.append (List.take lo.toNat xs) (List.append (sortL d.cf (cutL lo hi xs)) (List.drop hi.toNat xs))))) nx)
        | none => none
      | _, _ => none
    | _ => none
end

/-! ### Cells of a row -/
theorem flat_get {α : Type} {k : Nat} : ∀ (l : List (List α)) (t : Nat), (∀ c ∈ l, c.length = k) → t < l.length * k → l.flatten[t]? = (l[t / k]?).bind fun c => c[t % k]?
  | [], t, _, h => by simp at h
  | c :: l, t, hl, h => by
    have hc := hl c (by simp)
    have k0 : 0 < k := by
      rcases Nat.eq_zero_or_pos k with h0 | h0
      · subst h0; simp at h
      · exact h0
    rw [List.flatten_cons]
    by_cases h1 : t < k
    · rw [List.getElem?_append_left (by omega), Nat.div_eq_of_lt h1, Nat.mod_eq_of_lt h1]; rfl
    · have h2 : t - k < l.length * k := by rw [List.length_cons, Nat.add_mul, Nat.one_mul] at h; omega
      rw [List.getElem?_append_right (by omega), hc, flat_get l (t - k) (fun c hc => hl c (by simp [hc])) h2]
      have e1 : t / k = (t - k) / k + 1 := Nat.div_eq_sub_div k0 (by omega)
      have e2 : t % k = (t - k) % k := Nat.mod_eq_sub_mod (by omega)
      rw [e1, e2, List.getElem?_cons_succ]
theorem flatK_list {α : Type} [Inhabited α] {enc : α → List Value} {k : Nat} (hk : ∀ x, (enc x).length = k) (l : List α) : (flatK enc k l.toArray).toList = (l.map enc).flatten := by
  have hl : ∀ c ∈ l.map enc, c.length = k := fun c hc => by
    obtain ⟨x, _, rfl⟩ := List.mem_map.1 hc
    exact hk x
  apply List.ext_getElem?
  intro t
  by_cases ht : t < l.length * k
  · have h1 : t < (flatK enc k l.toArray).size := by rw [size_flatK]; simpa using ht
    have h2 := get_flatK enc k l.toArray t (by simpa using ht)
    rw [getElem!_pos _ t h1] at h2
    have k0 : 0 < k := by
      rcases Nat.eq_zero_or_pos k with h0 | h0
      · subst h0; simp at ht
      · exact h0
    have h3 : t / k < l.length := Nat.div_lt_of_lt_mul (by rwa [Nat.mul_comm] at ht)
    have h4 : t % k < (enc l[t / k]).length := by rw [hk]; exact Nat.mod_lt _ k0
    rw [flat_get _ t hl (by simpa using ht), Array.getElem?_toList, Array.getElem?_eq_getElem h1, h2]
    have e1 : (l.toArray)[t / k]! = l[t / k] := by rw [getElem!_pos l.toArray (t / k) (by simpa using h3)]; simp
    rw [e1, getElem!_pos (enc l[t / k]) (t % k) h4, List.getElem?_map, List.getElem?_eq_getElem h3]
    simp [List.getElem?_eq_getElem h4]
  · have h5 : (l.map enc).flatten.length = l.length * k := by rw [flatten_len hl]; simp
    rw [List.getElem?_eq_none (by rw [Array.length_toList, size_flatK]; simpa using ht), List.getElem?_eq_none (by rw [h5]; omega)]

/-! ### A sort's own contract -/
/-- The program's function sorts so. -/
structure SortOK (P : Program) (d : SortD) : Prop where
  fn : FnOK P d.f
  nolist : d.t.lists = false
  pos : 1 ≤ d.t.bytes
  run : ∀ (w : World) (im : Nat → Prop) (blk off cap : Nat) (cs : Array Value) (el : TypeId) (l : List d.t.den) (css : List (List Value)) (pre post : List Value), w.heap[blk]? = some (.cells cs el (0, 0)) → cs.toList = pre ++ css.flatten ++ post → pre.length = off →
    All2 (Rd w im d.t) l css → l.length < 4611686018427387904 →
    Calls P d.f #[.slice (some ⟨blk, off, none⟩) l.length cap, .func (.func d.g) #[] #[]] w fun e w' => e = .returned (.tuple #[]) ∧ ∃ (css' : List (List Value)) (w1 : World), All2 (Rd w im d.t) (sortL d.cf l) css' ∧ w1.os = w.os ∧ w1.tape = w.tape ∧ w1.output = w.output ∧
      w1.heap.size = w.heap.size ∧ (∀ j, j ≠ blk → w1.heap[j]? = w.heap[j]?) ∧ (∃ cs', w1.heap[blk]? = some (.cells cs' el (0, 0)) ∧ cs'.toList = pre ++ css'.flatten ++ post) ∧ Blw w1.heap.size w1 w'
  none : ∀ (w : World) (p : Option Addr) (cap : Nat), Calls P d.f #[.slice p 0 cap, .func (.func d.g) #[] #[]] w fun e w' => e = .returned (.tuple #[]) ∧ Blw w.heap.size w w'
  len : ∀ l, (sortL d.cf l).length = l.length
theorem len_sortL {α : Type} [Inhabited α] {cf : α → α → Int} (hO : SWO (ltOf cf)) (l : List α) : (sortL cf l).length = l.length := by
  have h := (pdq_sorts (ltOf cf) hO l.toArray 0 l.length (Lib.bitLen l.length) true true (Nat.zero_le _) (by simp) (Or.inl rfl)).1.1
  unfold sortL
  rw [Array.length_toList, h]; simp
theorem perm_sortL {α : Type} [Inhabited α] {cf : α → α → Int} (hO : SWO (ltOf cf)) (l : List α) : (sortL cf l).Perm l := by
  have h := (pdq_sorts (ltOf cf) hO l.toArray 0 l.length (Lib.bitLen l.length) true true (Nat.zero_le _) (by simp) (Or.inl rfl)).1
  have h2 := h.2.2
  have e1 : (pdq (ltOf cf) l.toArray 0 l.length (Lib.bitLen l.length) true true).extract 0 l.length = pdq (ltOf cf) l.toArray 0 l.length (Lib.bitLen l.length) true true := by
    have : l.length = (pdq (ltOf cf) l.toArray 0 l.length (Lib.bitLen l.length) true true).size := by rw [h.1]; simp
    rw [Array.extract_eq_self_of_le (Nat.le_of_eq this.symm)]
  have e2 : l.toArray.extract 0 l.length = l.toArray := Array.extract_eq_self_of_le (by simp)
  rw [e1, e2] at h2
  exact h2
theorem sorted_sortL {α : Type} [Inhabited α] {cf : α → α → Int} (hO : SWO (ltOf cf)) (l : List α) : (sortL cf l).Pairwise fun x y => ltOf cf y x = false := by
  have hs := pdq_sorts (ltOf cf) hO l.toArray 0 l.length (Lib.bitLen l.length) true true (Nat.zero_le _) (by simp) (Or.inl rfl)
  have hz : (pdq (ltOf cf) l.toArray 0 l.length (Lib.bitLen l.length) true true).size = l.length := by rw [hs.1.1]; simp
  rw [List.pairwise_iff_getElem]
  intro i j hi hj hij
  unfold sortL at hi hj ⊢
  rw [Array.length_toList] at hi hj
  have := hs.2 i j (Nat.zero_le _) hij (by omega)
  generalize pdq (ltOf cf) l.toArray 0 l.length (Lib.bitLen l.length) true true = A at *
  rw [getElem!_pos A i hi, getElem!_pos A j hj] at this
  simpa using this
theorem All2.of_map {α β : Type} {R : α → β → Prop} {f : α → β} : ∀ {l : List α}, (∀ x ∈ l, R x (f x)) → All2 R l (l.map f)
  | [], _ => trivial
  | x :: l, h => ⟨h x (by simp), All2.of_map fun y hy => h y (by simp [hy])⟩
theorem All2.eq_map {α β : Type} {R : α → β → Prop} {f : α → β} (hf : ∀ x y, R x y → y = f x) : ∀ {l : List α} {r : List β}, All2 R l r → r = l.map f
  | [], [], _ => rfl
  | [], _ :: _, h => h.elim
  | _ :: _, [], h => h.elim
  | x :: l, y :: r, h => by rw [hf x y h.1, All2.eq_map hf h.2]; rfl
theorem blw_grow (w : World) (os : Array Obj) : Blw w.heap.size w (grow w os) :=
  Blw.of ⟨rfl, rfl, rfl, by simp, fun k hk => by simp [grow, Array.getElem?_append, hk]⟩
theorem put_list {F c : Array Value} {pre mid post : List Value} {off : Nat} (hc : c.toList = pre ++ mid ++ post) (hp : pre.length = off) (hF : F.size = mid.length) : (putCells id off F c).toList = pre ++ F.toList ++ post := by
  subst hp
  apply List.ext_getElem?
  intro i
  have hi : c[i]? = (pre ++ (mid ++ post))[i]? := by rw [← Array.getElem?_toList, hc, List.append_assoc]
  unfold putCells
  rw [Array.getElem?_toList, Array.getElem?_mapIdx, hi, List.append_assoc]
  by_cases h1 : i < pre.length
  · rw [List.getElem?_append_left h1, List.getElem?_append_left h1]
    have : ¬ (pre.length ≤ i ∧ i < pre.length + F.size) := by omega
    simp [this]
  · obtain ⟨j, rfl⟩ : ∃ j, i = pre.length + j := ⟨i - pre.length, by omega⟩
    have e0 : pre.length + j - pre.length = j := by omega
    rw [List.getElem?_append_right (l₁ := pre) (l₂ := mid ++ post) (by omega), List.getElem?_append_right (l₁ := pre) (l₂ := F.toList ++ post) (by omega), e0]
    by_cases h2 : j < F.size
    · have h2' : j < mid.length := by omega
      have h2'' : j < F.toList.length := by simpa using h2
      rw [List.getElem?_append_left h2', List.getElem?_append_left h2'', List.getElem?_eq_getElem h2', List.getElem?_eq_getElem h2'']
      have h3 : pre.length ≤ pre.length + j ∧ pre.length + j < pre.length + F.size := by omega
      simp only [Option.map_some, if_pos h3, id]
      rw [getElem!_pos F j h2]; simp
    · have h2' : mid.length ≤ j := by omega
      have h2'' : F.toList.length ≤ j := by simpa using h2
      rw [List.getElem?_append_right h2', List.getElem?_append_right h2'']
      have h3 : ¬ (pre.length ≤ pre.length + j ∧ pre.length + j < pre.length + F.size) := by omega
      have e : j - F.toList.length = j - mid.length := by simp; omega
      rw [e]
      simp only [if_neg h3, Option.map_id']
/-- What the library's own law on the sort gives. -/
theorem SortOK.of {P : Program} {ρ : Go.Shelf.Ren} (L : SlLaysF0.n6 P ρ) {d : SortD} (hf : d.f = ρ.f 6) (hfn : FnOK P d.f) (hnl : d.t.lists = false) (hpos : 1 ≤ d.t.bytes) (aE : ∀ w, (isAgg (ρ.t 24)).run P w = .ok true w) (zE : ∀ w, (Go.sizeOf (ρ.t 24)).run P w = .ok d.t.size w)
    (enc : d.t.den → List Value) (hk : ∀ x, (enc x).length = d.t.size) (h1 : ∀ x, ∀ v ∈ enc x, v.oneCell' = true) (hrd : ∀ w im x c, Rd w im d.t x c → c = enc x) (hO : SWO (ltOf d.cf)) (hg : FnOK P d.g)
    (hcmp : ∀ blk off size w, CmpLays P d.g #[] enc d.t.size d.cf blk off size w) : SortOK P d := by
  refine ⟨hfn, hnl, hpos, ?_, fun w p cap => by rw [hf]; exact (AnyF.slices_SortFunc_none L p cap _ w).mono fun e w' ⟨h1, h2⟩ => ⟨h1, by rw [h2]; exact Blw.refl _ _⟩, len_sortL hO⟩
  intro w im blk off cap cs el l css pre post hb hcs hpre hall hlen
  have hcss : css = l.map enc := All2.eq_map (fun x c h => hrd w im x c h) hall
  have hfl := flatK_list hk l
  have hF : (flatK enc d.t.size l.toArray).toList = css.flatten := by rw [hfl, hcss]
  have hFs : (flatK enc d.t.size l.toArray).size = css.flatten.length := by rw [← hF]; simp
  have hH : HoldsK enc d.t.size w blk off l.toArray := by
    intro j hj
    constructor
    · have h2 : cs.toList[off + j]? = css.flatten[j]? := by
        rw [hcs, List.append_assoc, List.getElem?_append_right (by omega), List.getElem?_append_left (by omega)]
        congr 1; omega
      rw [← hF, Array.getElem?_toList, Array.getElem?_toList, Array.getElem?_eq_getElem hj] at h2
      simp only [World.cell?, hb, h2, id]
      rw [getElem!_pos (flatK enc d.t.size l.toArray) j hj]
      rfl
    · simp [World.frozen?, hb]
  have hblk : blk < w.heap.size := (Array.getElem?_eq_some_iff.1 hb).1
  have eg : ∀ args w, (callFunc d.g args).run P w = .ok (.enter d.g args) w := fun args w => run_callFunc hg args w
  have hmain := AnyQ.slices_SortFunc_eq L d.t.size aE zE enc hk h1 d.cf hO d.g #[] blk off cap l.toArray w eg (hcmp _ _ _ _) hH hblk (by simpa using hlen)
  rw [hf]
  have hsz : l.toArray.size = l.length := by simp
  rw [hsz] at hmain
  refine hmain.mono ?_
  rintro e w' ⟨rfl, n, os, rfl⟩
  refine ⟨rfl, (sortL d.cf l).map enc, putRowK enc d.t.size (Sort.ahead w n) blk off (sortL d.cf l).toArray, ?_, rfl, rfl, rfl, ?_, ?_, ?_, ?_⟩
  · refine All2.of_map fun x hx => ?_
    have hx2 := (perm_sortL hO l).mem_iff.1 hx
    obtain ⟨i, hi⟩ := List.getElem?_of_mem hx2
    obtain ⟨c, _, hr⟩ := hall.get i x hi
    rwa [hrd _ _ _ _ hr] at hr
  · simp [putRowK, putRow, mapBlock, Sort.ahead]
  · intro j hj
    simp only [putRowK, putRow, mapBlock, Sort.ahead, Array.getElem?_modify]
    rw [if_neg (fun h => hj h.symm)]
  · refine ⟨putCells id off (flatK enc d.t.size (sortL d.cf l).toArray) cs, ?_, ?_⟩
    · simp only [putRowK, putRow, mapBlock, Sort.ahead, Array.getElem?_modify, if_true, hb]
      rfl
    · rw [put_list hcs hpre ?_, flatK_list hk]
      have : (flatK enc d.t.size (sortL d.cf l).toArray).size = (flatK enc d.t.size l.toArray).size := by rw [size_flatK, size_flatK]; simp [len_sortL hO]
      rw [this, hFs]
  · have : sortWorldK enc d.t.size w blk off n (pdq (ltOf d.cf) l.toArray 0 l.length (Lib.bitLen l.length) true true) os = grow (putRowK enc d.t.size (Sort.ahead w n) blk off (sortL d.cf l).toArray) os := by
      unfold sortWorldK sortL
      simp
    rw [this]
    exact blw_grow _ _

/-! ### The handler -/
theorem findD_ok : ∀ {D : List SortD} {f : Nat} {d : SortD}, findD D f = some d → d ∈ D ∧ d.f = f
  | e :: D, f, d, h => by
    unfold findD at h
    split at h
    · rename_i hb
      cases h
      exact ⟨by simp, (Nat.eq_of_beq_eq_true hb).symm⟩
    · obtain ⟨h1, h2⟩ := findD_ok h
      exact ⟨by simp [h1], h2⟩
theorem Mem.put_self (m : Mem) (b : Nat) : m.put b (m b) = m := by
  funext i
  unfold Mem.put
  split
  · rename_i h; rw [Nat.eq_of_beq_eq_true h]
  · rfl
theorem sortL_nil {α : Type} [Inhabited α] {cf : α → α → Int} (hl : ∀ l : List α, (sortL cf l).length = l.length) : sortL cf [] = [] := List.length_eq_zero_iff.1 (hl [])
theorem cut_parts {α : Type} (l : List α) (lo hi : Nat) (h : lo ≤ hi) : l = l.take lo ++ ((l.take hi).drop lo ++ l.drop hi) := by
  rw [← List.append_assoc]
  have : l.take lo ++ (l.take hi).drop lo = l.take hi := by
    have h1 : l.take lo = (l.take hi).take lo := by rw [List.take_take, Nat.min_eq_left h]
    rw [h1, List.take_append_drop]
  rw [this, List.take_append_drop]
/-- A row's part is sorted. -/
theorem sort_row {P : Program} {C : Ctx} {E : Env} {m : Mem} {U : Nat → Prop} {d : SortD} (hS : SortOK P d) (hm : MR C E m U) {b nx : Nat} {xs : List d.t.den} (hb : m b = .slab d.t xs) (lo hi : Nat) (h1 : lo ≤ hi) (h2 : hi ≤ xs.length) (z : Value)
    (hz : (hi = lo ∧ ∃ p c, z = .slice p 0 c) ∨ ∃ k cap len c, lo < hi ∧ E.ρ b = some (.slab k d.t cap len) ∧ z = .slice (some ⟨k, lo * d.t.size, none⟩) (hi - lo) c) :
    Calls P d.f #[z, .func (.func d.g) #[] #[]] E.w fun e w' => ∃ v, e = .returned v ∧ Res C E m U nx nx (.tup .nil) (m.put b (.slab d.t (xs.take lo ++ (sortL d.cf ((xs.take hi).drop lo) ++ xs.drop hi)))) v w' := by
  have hlen := hS.len
  rcases hz with ⟨rfl, p, c, rfl⟩ | ⟨k, cap, len, c, hlt, hρ, rfl⟩
  · refine (hS.none E.w p c).mono ?_
    rintro e w' ⟨rfl, hw⟩
    have e0 : (xs.take hi).drop hi = [] := List.drop_eq_nil_of_le (by rw [List.length_take]; omega)
    rw [e0, sortL_nil hlen, List.nil_append, List.take_append_drop, ← hb, Mem.put_self]
    obtain ⟨g1, g2⟩ := hm.grow' hw
    refine ⟨_, rfl, { E with w := w' }, rfl, g2, g1.widen fun _ h => .inl h, ⟨fun j hj _ => hw.block j hj, hw.size, fun j hj => .inl hj, fun j hj => .inl hj⟩, [], rfl, rfl⟩
  · have hr := hm.blocks b
    rw [hb] at hr
    obtain ⟨hby, hr⟩ := hr
    rcases hr with ⟨hn, _⟩ | ⟨k', cap', cs, el, css, rest, hρ', hheap, hcs, hle, hcm, hall, hcl⟩
    · rw [hρ] at hn; cases hn
    rw [hρ] at hρ'
    cases hρ'
    have hlens := hall.lens
    have hcss : css.length = xs.length := hall.length.symm
    have hpre : (css.take lo).flatten.length = lo * d.t.size := by
      rw [flatten_len (n := d.t.size) fun c hc => hlens c (List.mem_of_mem_take hc), List.length_take]
      congr 1; omega
    have hsplit : cs.toList = (css.take lo).flatten ++ ((css.take hi).drop lo).flatten ++ ((css.drop hi).flatten ++ rest) := by
      rw [hcl]
      conv => lhs; rw [cut_parts css lo hi h1]
      simp only [List.flatten_append, List.append_assoc]
    have hmid : All2 (Rd E.w E.imm d.t) ((xs.take hi).drop lo) ((css.take hi).drop lo) := (hall.take hi).drop lo
    have hml : ((xs.take hi).drop lo).length = hi - lo := by rw [List.length_drop, List.length_take]; omega
    have hpos := hS.pos
    have hx62 : xs.length ≤ top := Nat.le_trans (Nat.le_mul_of_pos_right _ hpos) hby
    have htop : top = 140737488355328 := rfl
    have hrun := hS.run E.w E.imm k (lo * d.t.size) c cs el _ _ _ _ hheap hsplit hpre hmid (by rw [hml]; omega)
    rw [hml] at hrun
    refine hrun.mono ?_
    rintro e w' ⟨rfl, css', w1, hall', ho, ht, hout, hsz, hoth, ⟨cs', hheap', hcs'⟩, hgrow⟩
    have hl' : live (m b) := by rw [hb]; trivial
    have hnewl : (xs.take lo ++ (sortL d.cf ((xs.take hi).drop lo) ++ xs.drop hi)).length = xs.length := by
      rw [List.length_append, List.length_append, hlen, hml, List.length_take, List.length_drop]; omega
    have hRM : Ext E { E with w := w1 } → RM { E with w := w1 } b (.slab d.t (xs.take lo ++ (sortL d.cf ((xs.take hi).drop lo) ++ xs.drop hi))) := fun hx => by
      refine ⟨by rw [hnewl]; exact hby, .inr ⟨k, cap, cs', el, css.take lo ++ (css' ++ css.drop hi), rest, by rw [hnewl]; exact hρ, hheap', ?_, by rw [hnewl]; exact hle, hcm, ?_, ?_⟩⟩
      · have h3 : css'.flatten.length = ((css.take hi).drop lo).flatten.length := by
          rw [flatten_len (n := d.t.size) hall'.lens, flatten_len (n := d.t.size) hmid.lens, ← hall'.length, ← hmid.length, hlen]
        have h4 := congrArg List.length hsplit
        have h5 := congrArg List.length hcs'
        simp only [List.length_append, Array.length_toList] at h4 h5
        omega
      · exact ((hall.take lo).append (hall'.append (hall.drop hi))).mono fun _ _ h => h.ext hx
      · rw [hcs']
        simp only [List.flatten_append, List.append_assoc]
    obtain ⟨g1, g2⟩ := hm.write hl' hρ rfl ho ht hout hsz hoth (.slab d.t (xs.take lo ++ (sortL d.cf ((xs.take hi).drop lo) ++ xs.drop hi))) hRM
    obtain ⟨g3, g4⟩ := g1.grow' hgrow
    have hf1 : Frm E m { E with w := w1 } (m.put b (.slab d.t (xs.take lo ++ (sortL d.cf ((xs.take hi).drop lo) ++ xs.drop hi)))) :=
      ⟨fun j hj hno => hoth j (fun e => hno ⟨b, _, hl', hρ, by rw [e]; rfl⟩), Nat.le_of_eq hsz.symm, fun j hj => .inl (owns_put hl' hj), fun j hj => .inl hj⟩
    have hf2 : Frm { E with w := w1 } (m.put b (.slab d.t (xs.take lo ++ (sortL d.cf ((xs.take hi).drop lo) ++ xs.drop hi)))) { E with w := w' } (m.put b (.slab d.t (xs.take lo ++ (sortL d.cf ((xs.take hi).drop lo) ++ xs.drop hi)))) :=
      ⟨fun j hj _ => hgrow.block j hj, hgrow.size, fun j hj => .inl hj, fun j hj => .inl hj⟩
    exact ⟨_, rfl, { E with w := w' }, rfl, g2.trans g4, g3.widen fun _ h => .inl h, hf1.trans hf2, [], rfl, rfl⟩
theorem fn_val {E : Env} {g : Nat} {z : Value} (h : RV E (.fn g []) z) : z = .func (.func g) #[] #[] := by
  obtain ⟨cs, rfl, vs, hv, rfl⟩ := h
  cases vs with
  | nil => rfl
  | cons _ _ => exact hv.elim
theorem sortH_ok {P : Program} {C : Ctx} {D : List SortD} {inl : (R : Type) → Nat → List AV → Mem → Nat → KO R → Option R} (hD : ∀ d ∈ D, SortOK P d) (hi : InlOK P C inl) : InlOK P C (sortH D inl) := by
  intro R f vs m nx K y h
  unfold sortH at h
  split at h
  · exact hi R f vs m nx K y h
  rename_i d hd
  obtain ⟨hdm, rfl⟩ := findD_ok hd
  have hS := hD d hdm
  split at h
  · rename_i b g
    split at h
    · rename_i u xs hg hmb
      split at h
      · rename_i ys hc
        obtain ⟨he, hx⟩ := cast?_some hc
        cases he
        cases hx
        have hg := Nat.eq_of_beq_eq_true hg
        subst hg
        refine ⟨hS.fn, _, _, _, Nat.le_refl _, h, fun E zs U hv hm _ => ?_⟩
        match zs, hv with
        | [z1, z2], ⟨h1, h2, _⟩ =>
          obtain rfl := fn_val h2
          have hfull : xs.take 0 ++ (sortL d.cf ((xs.take xs.length).drop 0) ++ xs.drop xs.length) = sortL d.cf xs := by simp
          obtain ⟨cs, rfl, hc⟩ := h1
          have hz : (xs.length = 0 ∧ ∃ p c, pk (AV.sl b).isAgg cs = .slice p 0 c) ∨ ∃ k cap len c, 0 < xs.length ∧ E.ρ b = some (.slab k d.t cap len) ∧ pk (AV.sl b).isAgg cs = .slice (some ⟨k, 0 * d.t.size, none⟩) (xs.length - 0) c := by
            have hr := hm.blocks b
            rw [hmb] at hr
            obtain ⟨_, hr⟩ := hr
            rcases hc with ⟨t, hn, rfl⟩ | ⟨k, t, cap, len, hρ, rfl⟩
            · rcases hr with ⟨_, rfl⟩ | ⟨k', cap', cs, el, css, rest, hρ', _⟩
              · exact .inl ⟨rfl, none, 0, rfl⟩
              · rw [hn] at hρ'; cases hρ'
            · rcases hr with ⟨hn, rfl⟩ | ⟨k', cap', cs, el, css, rest, hρ', _⟩
              · rw [hρ] at hn; cases hn
              · rw [hρ] at hρ'
                cases hρ'
                by_cases h0 : xs.length = 0
                · exact .inl ⟨h0, some ⟨k, 0, none⟩, cap, by rw [h0]; rfl⟩
                · exact .inr ⟨k, cap, xs.length, cap, by omega, hρ, by rw [Nat.zero_mul]; rfl⟩
          have := sort_row (nx := nx) hS hm hmb 0 xs.length (Nat.zero_le _) (Nat.le_refl _) (pk (AV.sl b).isAgg cs) hz
          rw [hfull] at this
          exact this
        | [], hv => exact hv.elim
        | [_], hv => exact hv.2.elim
        | _ :: _ :: _ :: _, hv => exact hv.2.2.elim
      · cases h
    · cases h
  · rename_i b lo hi2 g
    split at h
    · rename_i u xs hg hmb
      split at h
      · rename_i ys hc
        obtain ⟨he, hx⟩ := cast?_some hc
        cases he
        cases hx
        have hg := Nat.eq_of_beq_eq_true hg
        subst hg
        obtain ⟨hgd, h⟩ := guardK_some h
        simp only [Bool.and_eq_true, decide_eq_true_eq] at hgd
        obtain ⟨⟨g1, g2⟩, g3⟩ := hgd
        obtain ⟨lo, rfl⟩ : ∃ n : Nat, lo = n := ⟨lo.toNat, by omega⟩
        obtain ⟨hi2, rfl⟩ : ∃ n : Nat, hi2 = n := ⟨hi2.toNat, by omega⟩
        rw [cutL_eq g1] at h
        simp only [Int.toNat_natCast] at h
        refine ⟨hS.fn, _, _, _, Nat.le_refl _, h, fun E zs U hv hm _ => ?_⟩
        match zs, hv with
        | [z1, z2], ⟨h1, h2, _⟩ =>
          obtain rfl := fn_val h2
          obtain ⟨cs, rfl, _, _, hc⟩ := h1
          refine sort_row (nx := nx) hS hm hmb lo hi2 (by omega) (by omega) _ ?_
          rcases hc with ⟨t, hn, h0, rfl⟩ | ⟨k, t, cap, len, a, c, hρ, k1, k2, k3, rfl, k4⟩
          · exact .inl ⟨by omega, none, 0, rfl⟩
          · by_cases hlt : lo < hi2
            · have hr := hm.blocks b
              rw [hmb] at hr
              obtain ⟨_, hr⟩ := hr
              rcases hr with ⟨hn, _⟩ | ⟨k', cap', cs, el, css, rest, hρ', _⟩
              · rw [hρ] at hn; cases hn
              · rw [hρ] at hρ'
                cases hρ'
                have := k4 (by omega)
                subst this
                refine .inr ⟨k, cap, _, c, hlt, hρ, ?_⟩
                have e : ((hi2 : Int) - (lo : Int)).toNat = hi2 - lo := by omega
                rw [e]
                rfl
            · have : hi2 = lo := by omega
              subst this
              refine .inl ⟨rfl, some a, c, ?_⟩
              have e : ((hi2 : Int) - (hi2 : Int)).toNat = 0 := by omega
              rw [e]
              rfl
        | [], hv => exact hv.elim
        | [_], hv => exact hv.2.elim
        | _ :: _ :: _ :: _, hv => exact hv.2.2.elim
      · cases h
    · cases h
  · cases h
end Go.Co
end

section
namespace Go.Co.N
open Go Go.Co Go.Proofs Go.Sort

/-! ### Sorting by name -/
def cfE (x y : Entry) : Int := Lib.compareInt x.Base y.Base
def cfV (x y : Reveal) : Int := Lib.compareInt x.Who y.Who
theorem lt_cfE (x y : Entry) : ltOf cfE x y = decide (x.Base < y.Base) := by
  unfold ltOf cfE Lib.compareInt
  by_cases h1 : x.Base < y.Base
  · simp [h1]
  · by_cases h2 : y.Base < x.Base <;> simp [h1, h2]
theorem lt_cfV (x y : Reveal) : ltOf cfV x y = decide (x.Who < y.Who) := by
  unfold ltOf cfV Lib.compareInt
  by_cases h1 : x.Who < y.Who
  · simp [h1]
  · by_cases h2 : y.Who < x.Who <;> simp [h1, h2]
theorem swo_cfE : SWO (ltOf cfE) where
  irrefl x := by rw [lt_cfE]; simp
  trans x y z h1 h2 := by rw [lt_cfE] at *; simp at *; omega
  ntrans x y z h1 h2 := by rw [lt_cfE] at *; simp at *; omega
theorem swo_cfV : SWO (ltOf cfV) where
  irrefl x := by rw [lt_cfV]; simp
  trans x y z h1 h2 := by rw [lt_cfV] at *; simp at *; omega
  ntrans x y z h1 h2 := by rw [lt_cfV] at *; simp at *; omega
theorem rd_entry {w : World} {im : Nat → Prop} {x : Entry} {c : List Value} (h : Rd w im (.st .entry) x c) : c = [.int .i64 x.Who, .int .i64 x.Base, .int .i64 x.Since] := by
  have h := Rd.st.1 h
  obtain ⟨a, b, rfl, h1, h2⟩ := Rd.prod.1 h
  obtain ⟨d, e, rfl, h3, h4⟩ := Rd.prod.1 h2
  obtain ⟨f, g, rfl, h5, h6⟩ := Rd.prod.1 h4
  rw [(Rd.int.1 h1).1, (Rd.int.1 h3).1, (Rd.int.1 h5).1, Rd.unit.1 h6]
  rfl
theorem rd_reveal {w : World} {im : Nat → Prop} {x : Reveal} {c : List Value} (h : Rd w im (.st .reveal) x c) : c = [.int .i64 x.Who, .int .i64 x.Epoch] := by
  have h := Rd.st.1 h
  obtain ⟨a, b, rfl, h1, h2⟩ := Rd.prod.1 h
  obtain ⟨d, e, rfl, h3, h4⟩ := Rd.prod.1 h2
  rw [(Rd.int.1 h1).1, (Rd.int.1 h3).1, Rd.unit.1 h4]
  rfl
/-- The batch that two trees tell. -/
def cameB (a b : Tree) : Batch := ⟨leftL a.Roster b.Roster, (sortL cfE (cameL a.Roster b.Roster)).map (·.Who)⟩
abbrev c_history_came : Con := ⟨[.st .tree, .st .tree], [.st .batch], fun x => some (cameB x.1 x.2.1, ())⟩
/-- Does a step lead from the one to the other? -/
def stepB (a t : Tree) : Bool := decide ((nextT a (cameB a t)).e = 0) && decide ((nextT a (cameB a t)).t = t)
def chainB : Tree → List Tree → Bool
  | _, [] => true
  | a, t :: r => stepB a t && chainB t r
def rightR : List Tree → Bool
  | [] => false
  | t :: r => decide (t = startT) && chainB t r
abbrev c_history_Right : Con := ⟨[.list (.st .tree)], [.bool], fun x => some (rightR x.1, ())⟩
/-! ### The document's batch of two trees -/
/-! ### Rows of scripts -/
def playT : Tree → List Batch → List Tree × List Int
  | _, [] => ([], [])
  | t, b :: r => bif decide ((nextT t b).e = 0) then ((nextT t b).t :: (playT (nextT t b).t r).1, 0 :: (playT (nextT t b).t r).2) else ((playT t r).1, (nextT t b).e :: (playT t r).2)
def rowOfS (s : List Batch) : List Tree := startT :: (playT startT s).1
def errsOfS (s : List Batch) : List Int := (playT startT s).2
abbrev c_history_Play : Con := ⟨[.list (.st .batch)], [.list (.st .tree), .list .i], fun x => some (rowOfS x.1, errsOfS x.1, ())⟩
/-! ### Who was on; what is excused -/
def onR (row : List Tree) (who fr to : Int) : Bool := decide (0 ≤ fr) && decide (fr ≤ to) && decide (to < (row.length : Int)) && allN (to - fr + 1).toNat fun i => decide (0 ≤ findR (lat row (fr + (i : Int))).Roster who)
abbrev c_history_On : Con := ⟨[.list (.st .tree), .i, .i, .i], [.bool], fun x => some (onR x.1 x.2.1 x.2.2.1 x.2.2.2.1, ())⟩
def excR (row : List Tree) (seen : List Reveal) (e v : Int) : Bool := decide (0 ≤ v) && decide (v < 21) && seen.any fun x => onR row x.Who x.Epoch e && below v (leaf (findR (lat row e).Roster x.Who))
abbrev c_history_Excused : Con := ⟨[.list (.st .tree), .list (.st .reveal), .i, .i], [.bool], fun x => some (excR x.1 x.2.1 x.2.2.1 x.2.2.2.1, ())⟩
/-! ### Names that begin -/
def bornGo : Int → Int → List Tree → List Reveal
  | _, _, [] => []
  | f, i, t :: r => (List.range (t.Fresh - f).toNat).map (fun (k : Nat) => (⟨f + k, i⟩ : Reveal)) ++ bornGo t.Fresh (i + 1) r
def bornR (row : List Tree) : List Reveal := bif rightR row then bornGo 1 0 row else []
abbrev c_history_Born : Con := ⟨[.list (.st .tree)], [.list (.st .reveal)], fun x => some (bornR x.1, ())⟩
/-! ### The same rows -/
end Go.Co.N
end
