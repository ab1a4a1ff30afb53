/-
  Names that begin in a tree: those from the Fresh before to its own.
  What the laws of chapter 22 are to answer.
  What each function computes, printed by a program of my own (wip/tool) out of its run.
  Laws of rows of trees: names, fronts, one way.
  What the document's functions of rows of trees are to answer.
  What each function computes, printed by a program of my own (wip/tool) out of its run.
  The document's functions of rows of trees: what they compute.
  The document's Born: what it computes.
  What each function computes, printed by a program of my own (wip/tool) out of its run.
  Laws of rows of trees: what is replaced, what is excused.
  The program computes so: printed by a program of my own (wip/tool).
  A range over an iterator that keeps a box of its own: what the loop's body must keep.
  The n least free slots: the program's function that ranges over an iterator of its own.
  The program computes so: printed by a program of my own (wip/tool).
  The program computes so: printed by a program of my own (wip/tool).
  The document's Born: its tie.
  history.Born: the names that a tree has and the one before had not, whichever order the map's range takes, sorted.
  history.Born: what it computes.
  The program computes so: printed by a program of my own (wip/tool).
  No conditions. Own text, for the claims about coterie.
-/
import Derived.RangeFuncMany
import Derived.RangeFuncBox
import Derived.OwnWalkIn
import Derived.RangeFuncKeeps
import Derived.RangeFuncLeaves
import Derived.RangeFuncCalls
import Derived.Shelf.Abstract
import Derived.WalkKit
import Derived.TacticsInMore
import Derived.LoopNIn
import Derived.LoopIn
import Derived.Maps.AppendAt
import Derived.RegionIn
import Derived.Shelf.RegionOpen
import Derived.Test.YtghlolinkmlkeaaGreatDoorPartE

section
namespace Go.Co.N
open Go Go.Co Go.Proofs Go.Sort

/-! ### Names of a tree -/
def hasN (t : Tree) (n : Int) : Prop := (∃ v : Nat, v < 21 ∧ bas t.Keys v = n) ∨ (∃ s : Nat, s < 64 ∧ isOn t.Roster s = true ∧ (ent t.Roster s).Base = n)
theorem hasN_lt {t : Tree} {n : Int} (hg : goodTree t = true) (h : hasN t n) : n < t.Fresh := by
  obtain ⟨_, _, _, _, _, _, hk, hs⟩ := goodTree_iff.1 hg
  rcases h with ⟨v, hv, rfl⟩ | ⟨s, hs2, _, rfl⟩
  · exact (hk v hv).1
  · exact (hs s hs2).1
theorem cntTo_at (m : Int) : ∀ (N : Nat) (x : Int), 0 ≤ x → x < cntTo m N → ∃ v : Nat, v < N ∧ inB m v = true ∧ cntTo m v = x
  | 0, x, h0, h1 => by simp only [cntTo] at h1; omega
  | N + 1, x, h0, h1 => by
    cases hb : inB m (N : Int) with
    | false =>
      rw [cntTo_out hb] at h1
      obtain ⟨v, a, b, c⟩ := cntTo_at m N x h0 h1
      exact ⟨v, by omega, b, c⟩
    | true =>
      rw [cntTo_in hb] at h1
      by_cases hx : x < cntTo m N
      · obtain ⟨v, a, b, c⟩ := cntTo_at m N x h0 hx
        exact ⟨v, by omega, b, c⟩
      · exact ⟨N, by omega, hb, by omega⟩
theorem hasN_next {t : Tree} {b : Batch} (h : (nextT t b).e = 0) (n : Int) : (hasN (nextT t b).t n ∧ ¬ hasN t n) ↔ (t.Fresh ≤ n ∧ n < (nextT t b).t.Fresh) := by
  have hg := (nextT_ok h).1
  have hg2 := nx_good h
  obtain ⟨hk, hk1, hk2, hk3, hk4⟩ := nx_turn h
  have hfe := nx_fresh h
  have hc := cntTo_le (replaced (nextT t b).left) 21
  constructor
  · rintro ⟨h1, h2⟩
    refine ⟨?_, hasN_lt hg2 h1⟩
    rcases h1 with ⟨v, hv, rfl⟩ | ⟨s, hs, hon, rfl⟩
    · rw [hk, bas, turned_get _ _ _ v hv] at h2 ⊢
      by_cases hin : inB (replaced (nextT t b).left) v = true
      · exact (fresh_bounds (k := t.Keys) hk3 hv hin).1
      · rw [kept_at hin] at h2
        exact absurd (.inl ⟨v, hv, rfl⟩) h2
    · rcases nx_seat h s hs with ⟨x, hx, hxs⟩ | ⟨_, ⟨_, _, hz⟩ | ⟨_, he⟩⟩
      · obtain ⟨k, hk', h3, h4, h5⟩ := nx_new h hx
        have : k = s := by omega
        subst this
        exact h5
      · rw [isOn_iff, hz] at hon
        exact absurd rfl hon
      · rw [he] at h2
        refine absurd (.inr ⟨s, hs, ?_, rfl⟩) h2
        rw [isOn_iff] at hon ⊢
        rwa [he] at hon
  · rintro ⟨h1, h2⟩
    refine ⟨?_, fun hh => by have := hasN_lt hg hh; omega⟩
    by_cases hn : n < t.Fresh + cntTo (replaced (nextT t b).left) 21
    · obtain ⟨v, hv, hin, hcv⟩ := cntTo_at (replaced (nextT t b).left) 21 (t.Fresh + cntTo (replaced (nextT t b).left) 21 - 1 - n) (by omega) (by omega)
      refine .inl ⟨v, hv, ?_⟩
      rw [hk, bas, turned_get _ _ _ v hv, turnedAt, if_pos hin]
      show t.Fresh + (cntTo (replaced (nextT t b).left) 21 - cntTo (replaced (nextT t b).left) (v + 1)) = n
      rw [cntTo_in hin, hcv]
      omega
    · obtain ⟨i, hi⟩ : ∃ i : Nat, n = t.Fresh + cntTo (replaced (nextT t b).left) 21 + i := ⟨(n - (t.Fresh + cntTo (replaced (nextT t b).left) 21)).toNat, by omega⟩
      have hil : i < b.Joins.length := by omega
      obtain ⟨s, hs, _, he, _⟩ := (nx_moved h).1 i b.Joins[i] (List.getElem?_eq_getElem hil)
      have h22 := (nx_room h).2.1
      refine .inr ⟨s, hs, isOn_iff.2 ?_, ?_⟩
      · rw [he]; simp only; omega
      · rw [he]; simp only; omega
theorem hasN_start (n : Int) : hasN startT n ↔ (1 ≤ n ∧ n < 22) := by
  have hk : ∀ v : Nat, v < 21 → bas startT.Keys v = (v : Int) + 1 := fun v hv => by
    unfold bas startT
    simp only
    rw [get_make _ _ (by omega) (by omega)]
    simp
  constructor
  · rintro (⟨v, hv, rfl⟩ | ⟨s, hs, hon, rfl⟩)
    · rw [hk v hv]; omega
    · rw [isOn_iff] at hon
      exact absurd (by unfold ent startT; simp only; rw [get_rep _ _ (by omega) (by omega)]; rfl) hon
  · rintro ⟨h1, h2⟩
    exact .inl ⟨(n - 1).toNat, by omega, by rw [hk _ (by omega)]; omega⟩

/-! ### The map of names -/
def keysM (t : Tree) : Nat → List (Int × Int)
  | 0 => []
  | v + 1 => seeI (keysM t v) (bas t.Keys v)
def rostM (t : Tree) : Nat → List (Int × Int)
  | 0 => keysM t 21
  | s + 1 => bif !decide ((ent t.Roster s).Base = 0) then seeI (rostM t s) (ent t.Roster s).Base else rostM t s
theorem mget_none_iff {h : List (Int × Int)} {b : Int} : mget h b = none ↔ b ∉ h.map (·.1) := by
  induction h with
  | nil => simp [mget]
  | cons e l ih =>
    rw [mget_cons, List.map_cons, List.mem_cons]
    by_cases he : e.1 = b
    · rw [if_pos he]; simp [he]
    · rw [if_neg he, ih]
      exact ⟨fun h1 h2 => h2.elim (fun h3 => he h3.symm) h1, fun h1 h2 => h1 (.inr h2)⟩
theorem mput_keys (x c : Int) : ∀ h : List (Int × Int), (∀ b, b ∈ (mput h x c).map (·.1) ↔ b = x ∨ b ∈ h.map (·.1)) ∧ ((h.map (·.1)).Nodup → ((mput h x c).map (·.1)).Nodup) ∧ (mput h x c).length ≤ h.length + 1
  | [] => by simp [mput]
  | e :: l => by
    obtain ⟨i1, i2, i3⟩ := mput_keys x c l
    simp only [mput]
    by_cases he : e.1 = x
    · rw [if_pos he]
      refine ⟨fun b => ?_, fun hn => ?_, by simp⟩
      · simp only [List.map_cons, List.mem_cons, he]
        exact ⟨fun h => h.elim .inl fun h => .inr (.inr h), fun h => h.elim .inl fun h => h⟩
      · simpa only [List.map_cons, he] using hn
    · rw [if_neg he]
      refine ⟨fun b => ?_, fun hn => ?_, by simp only [List.length_cons]; omega⟩
      · simp only [List.map_cons, List.mem_cons, i1]
        exact ⟨fun h => h.elim (fun h => .inr (.inl h)) fun h => h.elim .inl fun h => .inr (.inr h), fun h => h.elim (fun h => .inr (.inl h)) fun h => h.elim .inl fun h => .inr (.inr h)⟩
      · simp only [List.map_cons, List.nodup_cons, i1] at hn ⊢
        exact ⟨fun hm => hm.elim he hn.1, i2 hn.2⟩
/-- A map that counts at most k. -/
def Cnt (k : Nat) (h : List (Int × Int)) : Prop := (h.map (·.1)).Nodup ∧ h.length ≤ k ∧ ∀ b c, mget h b = some c → 1 ≤ c ∧ c ≤ k
theorem Cnt.nil : Cnt 0 [] := ⟨List.nodup_nil, Nat.le_refl _, fun b c h => by simp [mget] at h⟩
theorem Cnt.up {k : Nat} {h : List (Int × Int)} (hc : Cnt k h) : Cnt (k + 1) h := ⟨hc.1, by have := hc.2.1; omega, fun b c hb => by have := hc.2.2 b c hb; omega⟩
theorem Cnt.see {k : Nat} {h : List (Int × Int)} (hc : Cnt k h) (hk : k < 1000000) (x : Int) : Cnt (k + 1) (seeI h x) := by
  obtain ⟨i1, i2, i3⟩ := mput_keys x (IntKind.wrap IntKind.i64 (Option.getD (mget h x) 0 + 1)) h
  refine ⟨i2 hc.1, by have := hc.2.1; show (mput _ _ _).length ≤ _; omega, fun b c hb => ?_⟩
  unfold seeI at hb
  rw [mget_mput] at hb
  by_cases hx : x = b
  · rw [if_pos hx] at hb
    have hb := Option.some.inj hb
    cases hm : mget h x with
    | none => rw [hm] at hb; simp only [Option.getD_none] at hb; rw [i64_in _ (by omega)] at hb; omega
    | some d =>
      have := hc.2.2 x d hm
      rw [hm] at hb; simp only [Option.getD_some] at hb; rw [i64_in _ (by omega)] at hb; omega
  · rw [if_neg hx] at hb
    have := hc.2.2 b c hb
    omega
theorem see_keys (h : List (Int × Int)) (x b : Int) : b ∈ (seeI h x).map (·.1) ↔ b = x ∨ b ∈ h.map (·.1) := (mput_keys _ _ h).1 b
theorem keysM_cnt (t : Tree) : ∀ v : Nat, v ≤ 21 → Cnt v (keysM t v) ∧ ∀ b, b ∈ (keysM t v).map (·.1) ↔ ∃ w : Nat, w < v ∧ bas t.Keys w = b
  | 0, _ => ⟨Cnt.nil, fun b => ⟨fun h => by simp [keysM] at h, fun ⟨w, hw, _⟩ => by omega⟩⟩
  | v + 1, hv => by
    obtain ⟨i1, i2⟩ := keysM_cnt t v (by omega)
    refine ⟨i1.see (by omega) _, fun b => ?_⟩
    show b ∈ (seeI (keysM t v) (bas t.Keys v)).map (·.1) ↔ _
    rw [see_keys, i2]
    constructor
    · rintro (rfl | ⟨w, hw, rfl⟩)
      · exact ⟨v, by omega, rfl⟩
      · exact ⟨w, by omega, rfl⟩
    · rintro ⟨w, hw, rfl⟩
      by_cases he : w = v
      · subst he; exact .inl rfl
      · exact .inr ⟨w, by omega, rfl⟩
theorem rostM_cnt (t : Tree) : ∀ s : Nat, s ≤ 64 → Cnt (21 + s) (rostM t s) ∧ ∀ b, b ∈ (rostM t s).map (·.1) ↔ (∃ v : Nat, v < 21 ∧ bas t.Keys v = b) ∨ ∃ w : Nat, w < s ∧ isOn t.Roster w = true ∧ (ent t.Roster w).Base = b
  | 0, _ => by
    obtain ⟨i1, i2⟩ := keysM_cnt t 21 (by omega)
    exact ⟨i1, fun b => (i2 b).trans ⟨.inl, fun h => h.elim (fun h => h) fun ⟨w, hw, _⟩ => by omega⟩⟩
  | s + 1, hs => by
    obtain ⟨i1, i2⟩ := rostM_cnt t s (by omega)
    by_cases h0 : (ent t.Roster s).Base = 0
    · have e : rostM t (s + 1) = rostM t s := by simp [rostM, h0]
      rw [e]
      refine ⟨i1.up, fun b => ?_⟩
      rw [i2]
      constructor
      · rintro (h | ⟨w, hw, h⟩)
        · exact .inl h
        · exact .inr ⟨w, by omega, h⟩
      · rintro (h | ⟨w, hw, hon, h⟩)
        · exact .inl h
        · refine .inr ⟨w, ?_, hon, h⟩
          by_cases he : w = s
          · subst he; exact absurd h0 (isOn_iff.1 hon)
          · omega
    · have e : rostM t (s + 1) = seeI (rostM t s) (ent t.Roster s).Base := by simp [rostM, h0]
      rw [e]
      refine ⟨i1.see (by omega) _, fun b => ?_⟩
      rw [see_keys, i2]
      constructor
      · rintro (rfl | h | ⟨w, hw, h⟩)
        · exact .inr ⟨s, by omega, isOn_iff.2 h0, rfl⟩
        · exact .inl h
        · exact .inr ⟨w, by omega, h⟩
      · rintro (h | ⟨w, hw, hon, h⟩)
        · exact .inr (.inl h)
        · by_cases he : w = s
          · subst he; exact .inl h.symm
          · exact .inr (.inr ⟨w, by omega, hon, h⟩)
/-- The names of a tree, counted. -/
def nameM (t : Tree) : List (Int × Int) := rostM t 64
theorem nameM_len (t : Tree) : (nameM t).length ≤ 85 := (rostM_cnt t 64 (Nat.le_refl _)).1.2.1
theorem nameM_keys (t : Tree) (b : Int) : b ∈ (nameM t).map (·.1) ↔ hasN t b := (rostM_cnt t 64 (Nat.le_refl _)).2 b
theorem nameM_zero (t : Tree) (b : Int) : (mget (nameM t) b).getD 0 = 0 ↔ ¬ hasN t b := by
  rw [← nameM_keys, ← mget_none_iff]
  cases hm : mget (nameM t) b with
  | none => simp
  | some c =>
    have := (rostM_cnt t 64 (Nat.le_refl _)).1.2.2 b c hm
    simp only [Option.getD_some]
    constructor
    · intro h; omega
    · intro h; cases h

/-! ### What begins -/
def bornAt (f F i : Int) : List Reveal := (List.range (F - f).toNat).map (fun (k : Nat) => (⟨f + k, i⟩ : Reveal))
theorem mem_bornAt {f F i : Int} {x : Reveal} : x ∈ bornAt f F i ↔ f ≤ x.Who ∧ x.Who < F ∧ x.Epoch = i := by
  unfold bornAt
  simp only [List.mem_map, List.mem_range]
  constructor
  · rintro ⟨k, hk, rfl⟩
    exact ⟨by show f ≤ f + (k : Int); omega, by show f + (k : Int) < F; omega, rfl⟩
  · rintro ⟨h1, h2, h3⟩
    refine ⟨(x.Who - f).toNat, by omega, ?_⟩
    cases x
    simp only at *
    rw [h3]
    congr 1
    omega
theorem bornAt_lt (f F i : Int) : (bornAt f F i).Pairwise fun x y => x.Who < y.Who := by
  unfold bornAt
  refine List.Pairwise.map _ (fun a b hab => ?_) List.pairwise_lt_range
  show _ + (a : Int) < _ + (b : Int)
  omega
theorem mem_pick {lw : List (Int × Int)} {i : Int} {l : List (Int × Int)} {x : Reveal} : x ∈ pickB22 lw i l ↔ x.Who ∈ l.map (·.1) ∧ (mget lw x.Who).getD 0 = 0 ∧ x.Epoch = i := by
  unfold pickB22
  simp only [List.mem_map, List.mem_filter, decide_eq_true_eq]
  constructor
  · rintro ⟨e, ⟨h1, h2⟩, rfl⟩
    exact ⟨⟨e, h1, rfl⟩, h2, rfl⟩
  · rintro ⟨⟨e, h1, h2⟩, h3, h4⟩
    refine ⟨e, ⟨h1, by rw [h2]; exact h3⟩, ?_⟩
    cases x
    simp only at *
    rw [h2, h4]
theorem pick_nodup {lw : List (Int × Int)} {i : Int} {l : List (Int × Int)} (h : (l.map (·.1)).Nodup) : (pickB22 lw i l).Nodup := by
  have h2 : ((l.filter fun e => decide ((mget lw e.1).getD 0 = 0)).map (·.1)).Nodup := h.sublist (List.filter_sublist.map _)
  have h3 : ((pickB22 lw i l).map (·.Who)).Nodup := by
    unfold pickB22
    rw [List.map_map]
    exact h2
  exact (List.pairwise_map.1 h3).imp fun h he => h (by rw [he])
theorem sort_born {lw l : List (Int × Int)} {i f F : Int} (hn : (l.map (·.1)).Nodup) (hk : ∀ n, (n ∈ l.map (·.1) ∧ (mget lw n).getD 0 = 0) ↔ (f ≤ n ∧ n < F)) : sortL cfV (pickB22 lw i l) = bornAt f F i := by
  have h1 := perm_sortL swo_cfV (pickB22 lw i l)
  have h2 : (pickB22 lw i l).Perm (bornAt f F i) := (List.perm_ext_iff_of_nodup (pick_nodup hn) ((bornAt_lt f F i).imp fun hlt he => by subst he; omega)).2 fun x => by
    rw [mem_pick, mem_bornAt, ← and_assoc, hk, and_assoc]
  have hp := h1.trans h2
  refine List.Perm.eq_of_pairwise (le := fun x y => x.Who ≤ y.Who) (fun x y hx hy h3 h4 => ?_) ((sorted_sortL swo_cfV _).imp fun h => by rw [lt_cfV] at h; simpa using h) ((bornAt_lt f F i).imp fun h => by omega) hp
  have e1 := (mem_bornAt.1 (hp.mem_iff.1 hx)).2.2
  have e2 := (mem_bornAt.1 hy).2.2
  cases x; cases y
  simp only at *
  rw [e1, e2]
  congr 1
  omega
theorem bornGo_cons (f i : Int) (t : Tree) (r : List Tree) : bornGo f i (t :: r) = bornAt f t.Fresh i ++ bornGo t.Fresh (i + 1) r := rfl

/-! ### What Born computes -/
def g_born_r2 : (Unit × Unit × Vector Key 21 × Int × Unit) × (Tree × Unit) × List (Int × Int) × Unit → Option (((Unit × Unit × Vector Key 21 × Int × Unit) × (Tree × Unit) × List (Int × Int) × Unit) ⊕ ((Unit × Unit × Unit) × (Tree × Unit) × List (Int × Int) × Unit))
  | ((_, _, a, b, _), (c, _), e, _) => bif decide (b < 21) then bif decide (0 ≤ b) && decide (b < 21) then some (Sum.inl (((), (), a, IntKind.wrap IntKind.i64 (b + 1), ()), (c, ()), mput e (Arr.get a b).Base (IntKind.wrap IntKind.i64 (Option.getD (mget e (Arr.get a b).Base) 0 + 1)), ())) else none else some (Sum.inr (((), (), ()), (c, ()), e, ()))
def g_born_r3 : (Unit × Vector Entry 64 × Int × Unit) × Unit × List (Int × Int) × Unit → Option (((Unit × Vector Entry 64 × Int × Unit) × Unit × List (Int × Int) × Unit) ⊕ ((Unit × Unit) × Unit × List (Int × Int) × Unit))
  | ((_, a, b, _), _, d, _) => bif decide (b < 64) then bif decide (0 ≤ b) && decide (b < 64) then bif !decide ((Arr.get a b).Base = 0) then some (Sum.inl (((), a, IntKind.wrap IntKind.i64 (b + 1), ()), (), mput d (Arr.get a b).Base (IntKind.wrap IntKind.i64 (Option.getD (mget d (Arr.get a b).Base) 0 + 1)), ())) else some (Sum.inl (((), a, IntKind.wrap IntKind.i64 (b + 1), ()), (), d, ())) else none else some (Sum.inr (((), ()), (), d, ()))
noncomputable def g_born_r1 : (List Reveal × List (Int × Int) × List Tree × Int × Int × Unit) × Unit × Unit → Option (((List Reveal × List (Int × Int) × List Tree × Int × Int × Unit) × Unit × Unit) ⊕ ((List Reveal × Unit) × Unit × Unit))
  | ((xs, lw, a, b, c, _), _, _) => bif decide (c < b) then bif decide (0 ≤ c) && decide (c < (a.length : Int)) then Option.bind (lfp g_born_r2 (((), (), (lat a c).Keys, 0, ()), (lat a c, ()), [], ())) fun z => Option.bind (lfp g_born_r3 (((), z.snd.fst.fst.Roster, 0, ()), (), z.snd.snd.fst, ())) fun z2 => Option.bind (bornF ((xs, (), c, (), (xs.length : Int), a, b, c, ()), (), lw, z2.snd.snd.fst, ())) fun w => some (Sum.inl ((w.1.1, w.1.2.1, w.1.2.2.1, w.1.2.2.2.1, IntKind.wrap IntKind.i64 (w.1.2.2.2.2.1 + 1), ()), (), ())) else none else some (Sum.inr ((xs, ()), (), ()))
noncomputable def g_history_Born : List Tree × Unit → Option (List Reveal × Unit)
  | (a, _) => bif !rightR a then some ([], ()) else Option.bind (lfp g_born_r1 (([], [], a, (a.length : Int), 0, ()), (), ())) fun z => some (z.1.1, ())
theorem born_keys (t : Tree) : lfp g_born_r2 (((), (), t.Keys, 0, ()), (t, ()), [], ()) = some (((), (), ()), (t, ()), keysM t 21, ()) := by
  rw [lfp_run' (fun v => (((), (), t.Keys, (v : Int), ()), (t, ()), keysM t v, ())) 21 (by rfl) fun v hv => by
    have k1 : decide ((v : Int) < 21) = true := decide_eq_true (by omega)
    simp only [g_born_r2, k1, wrap1 v (by omega), Int.natCast_nonneg, decide_true, Bool.and_self, cond_true]
    rfl]
  exact lfp_inr (by simp only [g_born_r2]; rfl)
theorem born_rost (t : Tree) : lfp g_born_r3 (((), t.Roster, 0, ()), (), keysM t 21, ()) = some (((), ()), (), nameM t, ()) := by
  rw [lfp_run' (fun s => (((), t.Roster, (s : Int), ()), (), rostM t s, ())) 64 (by rfl) fun s hs => by
    have k1 : decide ((s : Int) < 64) = true := decide_eq_true (by omega)
    simp only [g_born_r3, k1, wrap1 s (by omega), Int.natCast_nonneg, decide_true, Bool.and_self, cond_true]
    by_cases h0 : (ent t.Roster s).Base = 0
    · simp [rostM, h0]
    · simp [rostM, h0, seeI]]
  exact lfp_inr (by simp only [g_born_r3]; rfl)
theorem born_step {a : List Tree} {t : Tree} {r : List Tree} {i : Nat} {xs : List Reveal} {lw : List (Int × Int)} {f : Int} (ha : a.length ≤ 9000000000000000000) (hd : a.drop i = t :: r) (hx : (xs.length : Int) + 1 = f) (hf : f ≤ 32768)
    (hk : ∀ n, (hasN t n ∧ (mget lw n).getD 0 = 0) ↔ (f ≤ n ∧ n < t.Fresh)) :
    g_born_r1 ((xs, lw, a, (a.length : Int), (i : Int), ()), (), ()) = some (Sum.inl ((xs ++ bornAt f t.Fresh i, nameM t, a, (a.length : Int), ((i + 1 : Nat) : Int), ()), (), ())) := by
  obtain ⟨hl, hx2, hr⟩ := lat_drop hd
  have k1 : decide ((i : Int) < (a.length : Int)) = true := decide_eq_true (by omega)
  have hi2 : IntKind.i64.wrap ((i : Int) + 1) = ((i + 1 : Nat) : Int) := by rw [i64_in _ (by omega)]; omega
  have hnl := nameM_len t
  have k2 : decide ((xs.length + (nameM t).length) * 16 ≤ 140737488355328) = true := decide_eq_true (by omega)
  have hso := sort_born (lw := lw) (l := nameM t) (i := (i : Int)) (rostM_cnt t 64 (Nat.le_refl _)).1.1 (fun n => by rw [nameM_keys]; exact hk n)
  simp only [g_born_r1, k1, hx2, Int.natCast_nonneg, decide_true, Bool.and_self, cond_true, born_keys, born_rost, Option.bind_some, bornF, k2, hso, hi2]
theorem bornAt_len (f F i : Int) : (bornAt f F i).length = (F - f).toNat := by unfold bornAt; simp
theorem born_loop (a : List Tree) (ha : a.length ≤ 9000000000000000000) : ∀ (r : List Tree) (i : Nat) (p : Tree) (xs : List Reveal), a.drop i = r → chainB p r = true → (xs.length : Int) + 1 = p.Fresh → p.Fresh ≤ 32768 →
    lfp g_born_r1 ((xs, nameM p, a, (a.length : Int), (i : Int), ()), (), ()) = some ((xs ++ bornGo p.Fresh i r, ()), (), ())
  | [], i, p, xs, hd, _, _, _ => by
    have hl : a.length ≤ i := List.drop_eq_nil_iff.1 hd
    refine lfp_inr ?_
    have k1 : decide ((i : Int) < (a.length : Int)) = false := decide_eq_false (by omega)
    simp only [g_born_r1, k1, cond_false, bornGo, List.append_nil]
  | t :: r, i, p, xs, hd, hc, hx, hf => by
    simp only [chainB, Bool.and_eq_true] at hc
    obtain ⟨hst, hc⟩ := hc
    unfold stepB at hst
    simp only [Bool.and_eq_true, decide_eq_true_eq] at hst
    obtain ⟨he, ht⟩ := hst
    have hroom := nx_room he
    have hfr := nx_fresh he
    have hcn := cntTo_le (replaced (nextT p (cameB p t)).left) 21
    rw [ht] at hroom hfr
    have hn := hasN_next he
    rw [ht] at hn
    rw [lfp_inl (born_step ha hd hx hf (fun n => by rw [nameM_zero]; exact hn n)), born_loop a ha r (i + 1) t _ (lat_drop hd).2.2 hc (by rw [List.length_append, bornAt_len]; omega) hroom.1, bornGo_cons, List.append_assoc]
    rfl
theorem eq_history_Born : Eqs c_history_Born g_history_Born := Eqs.tot fun (a, _) hf => by
  change List Tree at a
  have ha : a.length * 1888 ≤ 140737488355328 := (Fine.list.1 hf.1).1
  show g_history_Born (a, ()) = some (bornR a, ())
  unfold bornR
  cases hr : rightR a with
  | false => simp only [g_history_Born, hr, Bool.not_false, cond_true, cond_false]
  | true =>
    simp only [g_history_Born, hr, Bool.not_true, cond_true, cond_false]
    cases a with
    | nil => cases hr
    | cons t r =>
      have hr2 : (decide (t = startT) && chainB t r) = true := hr
      rw [Bool.and_eq_true, decide_eq_true_eq] at hr2
      obtain ⟨rfl, hc⟩ := hr2
      have hl : (startT :: r).length ≤ 9000000000000000000 := by omega
      have s1 := born_step (a := startT :: r) (i := 0) (xs := []) (lw := []) (f := 1) hl rfl rfl (by decide) (fun n => by rw [hasN_start]; exact ⟨fun h => h.1, fun h => ⟨h, rfl⟩⟩)
      rw [show lfp g_born_r1 (([], [], startT :: r, ((startT :: r).length : Int), 0, ()), (), ()) = _ from (lfp_inl s1).trans (born_loop (startT :: r) hl r 1 startT _ rfl hc (by decide) (by decide))]
      rfl
end Go.Co.N
end

section
namespace Go.Co.N
open Go Go.Co
abbrev c_law22_lives : Con := c_True []
abbrev c_law22_HistoryReplaced : Con := c_True [.list (.st .batch)]
abbrev c_law22_HistoryExcuses : Con := c_True [.list (.st .batch), .list (.st .reveal)]
end Go.Co.N
end

section
set_option maxRecDepth 100000
noncomputable section
namespace Go.Co.N
open Go Go.Co
/-- coterie/coterielaw22.lives -/
def g_law22_lives : Unit → Option (Bool × Unit)
  | _ => some (true, ())
end Go.Co.N
end
end

section
namespace Go.Co.N
open Go Go.Co Go.Proofs Go.Sort

theorem eq_law22_lives : Eqs c_law22_lives g_law22_lives := Eqs.tot fun _ _ => rfl
/-! ### Rows -/
theorem step_leads {p : Tree} {b : Batch} (h : (nextT p b).e = 0) : stepB p (nextT p b).t = true := by
  obtain ⟨h1, h2⟩ := came_leads h (B := cameB p (nextT p b).t) (l := sortL cfE (cameL p.Roster (nextT p b).t.Roster)) rfl rfl (perm_sortL swo_cfE _) ((sorted_sortL swo_cfE _).imp fun h => by rw [lt_cfE] at h; simpa using h)
  unfold stepB
  rw [h1, h2]
  simp
theorem step_of {p t : Tree} (h : stepB p t = true) : (nextT p (cameB p t)).e = 0 ∧ (nextT p (cameB p t)).t = t := by
  unfold stepB at h
  simpa using h
theorem chain_play : ∀ (s : List Batch) (p : Tree), chainB p (playT p s).1 = true
  | [], p => rfl
  | b :: s, p => by
    by_cases h : (nextT p b).e = 0
    · simp only [playT, h, decide_true, cond_true, chainB, step_leads h, Bool.true_and]
      exact chain_play s _
    · simp only [playT, decide_eq_false h, cond_false]
      exact chain_play s p
theorem right_play (s : List Batch) : rightR (rowOfS s) = true := by
  show (decide (startT = startT) && chainB startT (playT startT s).1) = true
  rw [chain_play, decide_eq_true rfl]; rfl
theorem chain_epoch : ∀ (r : List Tree) (p : Tree), chainB p r = true → 0 ≤ p.Epoch → p.Epoch ≤ 200 → p.Epoch + (r.length : Int) ≤ 200 ∧ ∀ (i : Nat) (x : Tree), r[i]? = some x → x.Epoch = p.Epoch + 1 + i
  | [], p, _, _, h2 => ⟨by simp only [List.length_nil]; omega, fun i x h => by simp at h⟩
  | t :: r, p, h, h1, h2 => by
    simp only [chainB, Bool.and_eq_true] at h
    obtain ⟨he, ht⟩ := step_of h.1
    have hep := nx_epoch he
    rw [ht] at hep
    obtain ⟨i1, i2⟩ := chain_epoch r t h.2 (by omega) (by omega)
    refine ⟨by simp only [List.length_cons]; omega, fun i x hx => ?_⟩
    cases i with
    | zero =>
      simp only [List.getElem?_cons_zero, Option.some.injEq] at hx
      subst hx
      simp only [Int.natCast_zero]; omega
    | succ i =>
      rw [List.getElem?_cons_succ] at hx
      have := i2 i x hx
      omega
theorem row_len (s : List Batch) : (rowOfS s).length ≤ 201 := by
  have := (chain_epoch _ _ (chain_play s startT) (by decide) (by decide)).1
  show ((playT startT s).1).length + 1 ≤ 201
  have h0 : startT.Epoch = 0 := rfl
  omega
/-! ### HistoryFronts -/
/-! ### HistoryNames -/
/-! ### HistoryOneWay -/
/-- What was seen up to a tree: no step below what a node of it has. -/
def SeenT (p : Tree) (h : List (Int × Int)) : Prop := ∀ n s, mget h n = some s → n < p.Fresh ∧ ∀ w : Nat, w < 85 → (ofT p w).2 = 0 → (ofT p w).1.Base = n → s ≤ (ofT p w).1.Step
/-- The same, in the midst of the next tree t. -/
def SeenV (p t : Tree) (v : Nat) (h : List (Int × Int)) : Prop := ∀ n s, mget h n = some s → (∃ w : Nat, w < v ∧ w < 85 ∧ (ofT t w).2 = 0 ∧ (ofT t w).1.Base = n ∧ (ofT t w).1.Step = s) ∨
  (n < p.Fresh ∧ ∀ w : Nat, w < 85 → (ofT t w).2 = 0 → (ofT t w).1.Base = n → s < (ofT t w).1.Step)
theorem SeenV.put {p t : Tree} {v : Nat} {h : List (Int × Int)} (hs : SeenV p t v h) (hv : v < 85) (h0 : (ofT t v).2 = 0) : SeenV p t (v + 1) (mput h (ofT t v).1.Base (ofT t v).1.Step) := by
  intro n s hm
  rw [mget_mput] at hm
  by_cases he : (ofT t v).1.Base = n
  · rw [if_pos he] at hm
    exact .inl ⟨v, by omega, hv, h0, he, Option.some.inj hm⟩
  · rw [if_neg he] at hm
    rcases hs n s hm with ⟨w, a1, a2⟩ | a
    · exact .inl ⟨w, by omega, a2⟩
    · exact .inr a
theorem SeenV.skip {p t : Tree} {v : Nat} {h : List (Int × Int)} (hs : SeenV p t v h) : SeenV p t (v + 1) h := fun n s hm => by
  rcases hs n s hm with ⟨w, a1, a2⟩ | a
  · exact .inl ⟨w, by omega, a2⟩
  · exact .inr a
theorem SeenV.done {p t : Tree} {h : List (Int × Int)} (hg : goodTree t = true) (hf : p.Fresh ≤ t.Fresh) (hs : SeenV p t 85 h) : SeenT t h := fun n s hm => by
  rcases hs n s hm with ⟨w, a1, a2, a3, a4, a5⟩ | a
  · refine ⟨by have := (ofT_ok hg a2 a3).2.1; omega, fun x hx h1 h2 => ?_⟩
    rcases Nat.lt_trichotomy w x with hl | rfl | hl
    · exact absurd (a4.trans h2.symm) (ofT_names hg hx hl h1 a3)
    · omega
    · exact absurd (h2.trans a4.symm) (ofT_names hg a2 hl a3 h1)
  · exact ⟨by omega, fun x hx h1 h2 => by have := a.2 x hx h1 h2; omega⟩
theorem SeenT.next {p : Tree} {b : Batch} (h : (nextT p b).e = 0) {m : List (Int × Int)} (hs : SeenT p m) : SeenV p (nextT p b).t 0 m := fun n s hm => by
  obtain ⟨h1, h2⟩ := hs n s hm
  refine .inr ⟨h1, fun w hw h0 hb => ?_⟩
  rcases st_of h hw h0 with hf | ⟨a1, a2, _⟩
  · omega
  · rw [a2] at hb ⊢
    have := h2 w hw a1 hb
    show s < (ofT p w).1.Step + 1
    omega
end Go.Co.N
end

section
namespace Go.Co.N
open Go Go.Co
end Go.Co.N
end

section
set_option maxRecDepth 100000
noncomputable section
namespace Go.Co.N
open Go Go.Co
def g_ref12_RowPlay_r1 : (List Tree × List Int × List Batch × Int × Int × Unit) × Unit × Unit → Option (((List Tree × List Int × List Batch × Int × Int × Unit) × Unit × Unit) ⊕ ((List Tree × List Int × Unit) × Unit × Unit))
  | ((a, b, c, d, e, _), _, _) => bif decide (e < d) then bif decide (0 ≤ e) && decide (e < (↑(List.length c) : Int)) then bif decide (0 ≤ IntKind.wrap IntKind.i64 ((↑(List.length a) : Int) - 1)) && decide (IntKind.wrap IntKind.i64 ((↑(List.length a) : Int) - 1) < (↑(List.length a) : Int)) then bif decide ((nextT (lat a (IntKind.wrap IntKind.i64 ((↑(List.length a) : Int) - 1))) (lat c e)).e = 0) then bif decide ((List.length a + 1) * 1888 ≤ 140737488355328) then bif decide ((List.length b + 1) * 8 ≤ 140737488355328) then some (Sum.inl ((List.append a [(nextT (lat a (IntKind.wrap IntKind.i64 ((↑(List.length a) : Int) - 1))) (lat c e)).t], List.append b [(nextT (lat a (IntKind.wrap IntKind.i64 ((↑(List.length a) : Int) - 1))) (lat c e)).e], c, d, IntKind.wrap IntKind.i64 (e + 1), ()), (), ())) else none else none else bif decide ((List.length b + 1) * 8 ≤ 140737488355328) then some (Sum.inl ((a, List.append b [(nextT (lat a (IntKind.wrap IntKind.i64 ((↑(List.length a) : Int) - 1))) (lat c e)).e], c, d, IntKind.wrap IntKind.i64 (e + 1), ()), (), ())) else none else none else none else some (Sum.inr ((a, b, ()), (), ()))
/-- coterie/coterieref12.RowPlay -/
def g_ref12_RowPlay : List Batch × Unit → Option (List Tree × List Int × Unit)
  | (a, _) => Option.bind (lfp g_ref12_RowPlay_r1 (([startT], [], a, (↑(List.length a) : Int), 0, ()), (), ())) fun z => some (z.fst.fst, z.fst.snd.fst, ())
/-- coterie/coterieref22.Play -/
def g_ref22_Play : List Batch × Unit → Option (List Tree × List Int × Unit)
  | (a, _) => some (rowOfS a, errsOfS a, ())
end Go.Co.N
end
end

section
namespace Go.Co.N
open Go Go.Co Go.Proofs Go.Sort

/-! ### RowPlay -/
theorem rowplay_loop (c : List Batch) (hc : c.length * 48 ≤ 140737488355328) : ∀ (r : List Batch) (i : Nat) (acc : List Tree) (errs : List Int) (f : Tree), c.drop i = r → errs.length = i → ((acc.length : Int)) = f.Epoch → f.Epoch ≤ 200 →
    lfp g_ref12_RowPlay_r1 ((acc ++ [f], errs, c, (c.length : Int), (i : Int), ()), (), ()) = some ((acc ++ f :: (playT f r).1, errs ++ (playT f r).2, ()), (), ())
  | [], i, acc, errs, f, hd, hi, _, _ => by
    have hl : c.length ≤ i := List.drop_eq_nil_iff.1 hd
    refine lfp_inr ?_
    have k1 : decide ((i : Int) < (c.length : Int)) = false := decide_eq_false (by omega)
    simp only [g_ref12_RowPlay_r1, k1, cond_false, playT, List.append_nil]
  | b :: r, i, acc, errs, f, hd, hi, ha, hf => by
    obtain ⟨hl, hx, hr⟩ := lat_drop hd
    have k1 : decide ((i : Int) < (c.length : Int)) = true := decide_eq_true (by omega)
    have k2 : decide ((errs.length + 1) * 8 ≤ 140737488355328) = true := decide_eq_true (by omega)
    have k3 : decide (((acc ++ [f]).length + 1) * 1888 ≤ 140737488355328) = true := decide_eq_true (by rw [List.length_append, List.length_singleton]; omega)
    have hi2 : IntKind.i64.wrap ((i : Int) + 1) = ((i + 1 : Nat) : Int) := by rw [i64_in _ (by omega)]; omega
    have w1 : IntKind.wrap IntKind.i64 (((acc ++ [f]).length : Int) - 1) = (acc.length : Int) := by rw [List.length_append, List.length_singleton, i64_in _ (by omega)]; omega
    have k4 : decide ((acc.length : Int) < ((acc ++ [f]).length : Int)) = true := decide_eq_true (by rw [List.length_append, List.length_singleton]; omega)
    have k5 : lat (acc ++ [f]) (acc.length : Int) = f := by rw [lat_nat _ _ (by rw [List.length_append, List.length_singleton]; omega)]; simp
    by_cases h : (nextT f b).e = 0
    · have he := nx_epoch h
      have ih := rowplay_loop c hc r (i + 1) (acc ++ [f]) (errs ++ [0]) (nextT f b).t hr (by simp [hi]) (by rw [List.length_append, List.length_singleton]; omega) (by omega)
      rw [lfp_inl (x' := (((acc ++ [f]) ++ [(nextT f b).t], errs ++ [0], c, (c.length : Int), ((i + 1 : Nat) : Int), ()), (), ())) (by
        simp only [g_ref12_RowPlay_r1, k1, k2, k3, w1, k4, k5, hx, hi2, h, Int.natCast_nonneg, decide_true, Bool.and_self, cond_true]; rfl), ih]
      simp only [playT, h, decide_true, cond_true, List.append_assoc, List.cons_append, List.nil_append]
    · have ih := rowplay_loop c hc r (i + 1) acc (errs ++ [(nextT f b).e]) f hr (by simp [hi]) ha hf
      rw [lfp_inl (x' := ((acc ++ [f], errs ++ [(nextT f b).e], c, (c.length : Int), ((i + 1 : Nat) : Int), ()), (), ())) (by
        simp only [g_ref12_RowPlay_r1, k1, k2, w1, k4, k5, hx, hi2, decide_eq_false h, Int.natCast_nonneg, decide_true, Bool.and_self, cond_true, cond_false]; rfl), ih]
      simp only [playT, decide_eq_false h, cond_false, List.append_assoc, List.cons_append, List.nil_append]
theorem eq_ref12_RowPlay : Eqs c_ref12_RowPlay g_ref12_RowPlay := Eqs.tot fun (c, _) hf => by
  change List Batch at c
  have hc : c.length * 48 ≤ 140737488355328 := (Fine.list.1 hf.1).1
  have h := rowplay_loop c hc c 0 [] [] startT rfl rfl rfl (by decide)
  simp only [g_ref12_RowPlay]
  rw [show lfp g_ref12_RowPlay_r1 (([startT], [], c, (c.length : Int), 0, ()), (), ()) = _ from h]
  rfl

/-! ### between -/
/-! ### RowRight -/
/-! ### RowOn, RowExcused -/
/-! ### The same -/
theorem eq_ref22_Play : Eqs c_ref22_Play g_ref22_Play := Eqs.tot fun (_, _) _ => rfl
end Go.Co.N
end

section
namespace Go.Co.N
open Go Go.Co Go.Proofs Go.Sort

/-! ### The map of names, each told once -/
end Go.Co.N
end

section
set_option maxRecDepth 100000
noncomputable section
namespace Go.Co.N
open Go Go.Co
def g_law22_HistoryReplaced_r2 : (List Tree × List Int × Int × Unit × Int × List Batch × Int × Int × Unit) × (Rekey × Unit) × Unit → Option (((List Tree × List Int × Int × Unit × Int × List Batch × Int × Int × Unit) × (Rekey × Unit) × Unit) ⊕ ((Bool × Unit) × Unit × Unit ⊕ (List Tree × List Int × Int × List Batch × Int × Int × Unit) × Unit × Unit))
  | ((a, b, c, _, d, e, f, g, _), (h, _), _) => bif decide (d < 21) then bif decide (0 ≤ c) && decide (c < (↑(List.length a) : Int)) then bif decide (0 ≤ d) && decide (d < 21) then bif decide (0 ≤ IntKind.wrap IntKind.i64 (c + 1)) && decide (IntKind.wrap IntKind.i64 (c + 1) < (↑(List.length a) : Int)) then bif decide (0 ≤ d) && decide (d < 21) then bif decide (inB (replaced h.Leaves) d = decide ((Arr.get (lat a c).Keys d).Base = (Arr.get (lat a (IntKind.wrap IntKind.i64 (c + 1))).Keys d).Base)) then some (Sum.inr (Sum.inl ((false, ()), (), ()))) else some (Sum.inl ((a, b, c, (), IntKind.wrap IntKind.i64 (d + 1), e, f, g, ()), (h, ()), ())) else none else none else none else none else some (Sum.inr (Sum.inr ((a, b, c, e, f, g, ()), (), ())))
def g_law22_HistoryReplaced_r1 : (List Tree × List Int × Int × List Batch × Int × Int × Unit) × Unit × Unit → Option (((List Tree × List Int × Int × List Batch × Int × Int × Unit) × Unit × Unit) ⊕ ((Bool × Unit) × Unit × Unit ⊕ (List Tree × Int × Unit) × Unit × Unit))
  | ((a, b, c, d, e, f, _), _, _) => bif decide (f < e) then bif decide (0 ≤ f) && decide (f < (↑(List.length d) : Int)) then bif decide ((↑(List.length b) : Int) ≤ f) then some (Sum.inl ((a, b, c, d, e, IntKind.wrap IntKind.i64 (f + 1), ()), (), ())) else bif decide (0 ≤ f) && decide (f < (↑(List.length b) : Int)) then bif !decide (lat b f = 0) then some (Sum.inl ((a, b, c, d, e, IntKind.wrap IntKind.i64 (f + 1), ()), (), ())) else bif decide ((↑(List.length a) : Int) ≤ IntKind.wrap IntKind.i64 (c + 1)) then some (Sum.inr (Sum.inl ((false, ()), (), ()))) else bif decide (0 ≤ c) && decide (c < (↑(List.length a) : Int)) then bif !decide ((nextR (lat a c) (lat d f)).snd.snd = 0) then some (Sum.inr (Sum.inl ((false, ()), (), ()))) else Option.bind (lfp g_law22_HistoryReplaced_r2 ((a, b, c, (), 0, d, e, f, ()), ((nextR (lat a c) (lat d f)).snd.fst, ()), ())) fun z => Sum.elim (fun x => some (Sum.inr (Sum.inl ((x.fst.fst, ()), (), ())))) (fun z => some (Sum.inl ((z.fst.fst, z.fst.snd.fst, IntKind.wrap IntKind.i64 (z.fst.snd.snd.fst + 1), z.fst.snd.snd.snd.fst, z.fst.snd.snd.snd.snd.fst, IntKind.wrap IntKind.i64 (z.fst.snd.snd.snd.snd.snd.fst + 1), ()), (), ()))) z else none else none else none else some (Sum.inr (Sum.inr ((a, c, ()), (), ())))
/-- coterie/coterielaw22.HistoryReplaced -/
def g_law22_HistoryReplaced : List Batch × Unit → Option (Bool × Unit)
  | (a, _) => Option.bind (lfp g_law22_HistoryReplaced_r1 ((rowOfS a, errsOfS a, 0, a, (↑(List.length a) : Int), 0, ()), (), ())) fun z => Sum.elim (fun x => some (x.fst.fst, ())) (fun z => some (decide (z.fst.snd.fst = IntKind.wrap IntKind.i64 ((↑(List.length z.fst.fst) : Int) - 1)), ())) z
def g_law22_HistoryExcuses_r2 : (List Reveal × List Tree × Int × Int × Unit) × Unit × Unit → Option (((List Reveal × List Tree × Int × Int × Unit) × Unit × Unit) ⊕ ((Bool × Unit) × Unit × Unit ⊕ (List Reveal × List Tree × Int × Unit) × Unit × Unit))
  | ((a, b, c, d, _), _, _) => bif decide (d < 21) then bif !excR b a c d then some (Sum.inl ((a, b, c, IntKind.wrap IntKind.i64 (d + 1), ()), (), ())) else bif !excR b a c 0 then some (Sum.inr (Sum.inl ((false, ()), (), ()))) else bif decide (IntKind.wrap IntKind.i64 (c + 1) < (↑(List.length b) : Int)) then bif decide (0 ≤ IntKind.wrap IntKind.i64 (c + 1)) && decide (IntKind.wrap IntKind.i64 (c + 1) < (↑(List.length b) : Int)) then bif decide (0 ≤ d) && decide (d < 21) then bif decide (0 ≤ c) && decide (c < (↑(List.length b) : Int)) then bif decide (0 ≤ d) && decide (d < 21) then bif decide ((Arr.get (lat b (IntKind.wrap IntKind.i64 (c + 1))).Keys d).Base = (Arr.get (lat b c).Keys d).Base) then bif !excR b a (IntKind.wrap IntKind.i64 (c + 1)) d then some (Sum.inr (Sum.inl ((false, ()), (), ()))) else some (Sum.inl ((a, b, c, IntKind.wrap IntKind.i64 (d + 1), ()), (), ())) else some (Sum.inl ((a, b, c, IntKind.wrap IntKind.i64 (d + 1), ()), (), ())) else none else none else none else none else some (Sum.inl ((a, b, c, IntKind.wrap IntKind.i64 (d + 1), ()), (), ())) else some (Sum.inr (Sum.inr ((a, b, c, ()), (), ())))
def g_law22_HistoryExcuses_r1 : (List Reveal × List Tree × Int × Unit) × Unit × Unit → Option (((List Reveal × List Tree × Int × Unit) × Unit × Unit) ⊕ ((Bool × Unit) × Unit × Unit ⊕ Unit × Unit × Unit))
  | ((a, b, c, _), _, _) => bif decide (c < (↑(List.length b) : Int)) then bif decide (c < 30) then Option.bind (lfp g_law22_HistoryExcuses_r2 ((a, b, c, 0, ()), (), ())) fun z => Sum.elim (fun x => some (Sum.inr (Sum.inl ((x.fst.fst, ()), (), ())))) (fun z => some (Sum.inl ((z.fst.fst, z.fst.snd.fst, IntKind.wrap IntKind.i64 (z.fst.snd.snd.fst + 1), ()), (), ()))) z else some (Sum.inr (Sum.inr ((), (), ()))) else some (Sum.inr (Sum.inr ((), (), ())))
/-- coterie/coterielaw22.HistoryExcuses -/
def g_law22_HistoryExcuses : List Batch × List Reveal × Unit → Option (Bool × Unit)
  | (a, b, _) => Option.bind (lfp g_law22_HistoryExcuses_r1 ((b, rowOfS a, 0, ()), (), ())) fun z => Sum.elim (fun x => some (x.fst.fst, ())) (fun _ => some (true, ())) z
end Go.Co.N
end
end

section
namespace Go.Co.N
open Go Go.Co Go.Proofs Go.Sort

/-! ### HistoryReplaced -/
theorem rep_at {t : Tree} {b : Batch} (h : (nextT t b).e = 0) {v : Nat} (hv : v < 21) : inB (replaced (nextT t b).left) (v : Int) = !decide ((Arr.get t.Keys (v : Int)).Base = (Arr.get (nextT t b).t.Keys (v : Int)).Base) := by
  obtain ⟨hk, hk1, hk2, hk3, hk4⟩ := nx_turn h
  have hg := (nextT_ok h).1
  have hlt := ((goodTree_iff.1 hg).2.2.2.2.2.2.1 v hv).1
  rw [hk, turned_get _ _ _ v hv]
  cases hin : inB (replaced (nextT t b).left) (v : Int) with
  | true =>
    have := (fresh_bounds (k := t.Keys) hk3 hv hin).1
    rw [decide_eq_false]
    · rfl
    · intro he
      have e2 : bas t.Keys v = (turnedAt t.Keys (replaced (nextT t b).left) t.Fresh v).Base := he
      omega
  | false =>
    rw [kept_at (by rw [hin]; simp), decide_eq_true]
    · rfl
    · rfl
theorem rep_inner (row : List Tree) (errs : List Int) (at' : Nat) (scr : List Batch) (ln idx : Int) (p : Tree) (b : Batch) (h : (nextT p b).e = 0) (h1 : at' + 1 < row.length) (hr : row.length ≤ 201) (hp : lat row (at' : Int) = p) (ht : lat row ((at' + 1 : Nat) : Int) = (nextT p b).t) :
    lfp g_law22_HistoryReplaced_r2 ((row, errs, (at' : Int), (), 0, scr, ln, idx, ()), ((nextR p b).snd.fst, ()), ()) = some (Sum.inr ((row, errs, (at' : Int), scr, ln, idx, ()), (), ())) := by
  have hm : (nextR p b).snd.fst.Leaves = (nextT p b).left := by
    unfold nextR
    rw [decide_eq_true h]; rfl
  rw [lfp_run' (fun v => ((row, errs, (at' : Int), (), (v : Int), scr, ln, idx, ()), ((nextR p b).snd.fst, ()), ())) 21 (by rfl) fun v hv => by
    have k1 : decide ((v : Int) < 21) = true := decide_eq_true (by omega)
    have k2 : decide ((at' : Int) < (row.length : Int)) = true := decide_eq_true (by omega)
    have k3 : decide (((at' + 1 : Nat) : Int) < (row.length : Int)) = true := decide_eq_true (by omega)
    have hrp := rep_at h hv
    have k4 : decide (inB (replaced (nextT p b).left) (v : Int) = decide ((Arr.get p.Keys (v : Int)).Base = (Arr.get (nextT p b).t.Keys (v : Int)).Base)) = false := decide_eq_false (by rw [hrp]; cases decide ((Arr.get p.Keys (v : Int)).Base = (Arr.get (nextT p b).t.Keys (v : Int)).Base) <;> simp)
    simp only [g_law22_HistoryReplaced_r2, k1, k2, wrap1 at' (by omega), k3, hp, ht, hm, k4, wrap1 v (by omega), Int.natCast_nonneg, decide_true, Bool.and_self, cond_true, cond_false]]
  exact lfp_inr (by simp only [g_law22_HistoryReplaced_r2]; rfl)
theorem rep_loop (row : List Tree) (errs : List Int) (scr : List Batch) (hs : scr.length * 48 ≤ 140737488355328) (hr : row.length ≤ 201) : ∀ (r : List Batch) (i at' : Nat) (p : Tree), scr.drop i = r → errs.drop i = (playT p r).2 → row.drop at' = p :: (playT p r).1 →
    lfp g_law22_HistoryReplaced_r1 ((row, errs, (at' : Int), scr, (scr.length : Int), (i : Int), ()), (), ()) = some (Sum.inr ((row, (row.length : Int) - 1, ()), (), ()))
  | [], i, at', p, hd, _, hrow => by
    have hl : scr.length ≤ i := List.drop_eq_nil_iff.1 hd
    have hrl := congrArg List.length hrow
    simp only [playT, List.length_drop, List.length_cons, List.length_nil] at hrl
    refine lfp_inr ?_
    have k1 : decide ((i : Int) < (scr.length : Int)) = false := decide_eq_false (by omega)
    have e : (at' : Int) = (row.length : Int) - 1 := by omega
    simp only [g_law22_HistoryReplaced_r1, k1, cond_false, e]
  | b :: r, i, at', p, hd, he, hrow => by
    obtain ⟨hl, hx, hr2⟩ := lat_drop hd
    have k1 : decide ((i : Int) < (scr.length : Int)) = true := decide_eq_true (by omega)
    have hi2 : IntKind.i64.wrap ((i : Int) + 1) = ((i + 1 : Nat) : Int) := by rw [i64_in _ (by omega)]; omega
    obtain ⟨hal, hap, har⟩ := lat_drop hrow
    have k5 : decide ((at' : Int) < (row.length : Int)) = true := decide_eq_true (by omega)
    by_cases h : (nextT p b).e = 0
    · have ep : playT p (b :: r) = ((nextT p b).t :: (playT (nextT p b).t r).1, 0 :: (playT (nextT p b).t r).2) := by simp only [playT, h, decide_true, cond_true]
      rw [ep] at he har
      obtain ⟨hel, hev, her⟩ := lat_drop he
      obtain ⟨hbl, hbt, hbr⟩ := lat_drop har
      have k2 : decide ((errs.length : Int) ≤ (i : Int)) = false := decide_eq_false (by omega)
      have k3 : decide ((i : Int) < (errs.length : Int)) = true := decide_eq_true (by omega)
      have k4 : decide ((row.length : Int) ≤ ((at' + 1 : Nat) : Int)) = false := decide_eq_false (by omega)
      have hin := rep_inner row errs at' scr (scr.length : Int) (i : Int) p b h hbl hr hap hbt
      rw [lfp_inl (x' := ((row, errs, ((at' + 1 : Nat) : Int), scr, (scr.length : Int), ((i + 1 : Nat) : Int), ()), (), ())) (by
        simp only [g_law22_HistoryReplaced_r1, k1, k2, k3, k4, k5, hx, hev, hap, wrap1 at' (by omega), hi2, nextR_e22, h, hin, Int.natCast_nonneg, decide_true, Bool.and_self, cond_true, cond_false, Bool.not_true, Option.bind_some, Sum.elim_inr])]
      exact rep_loop row errs scr hs hr r (i + 1) (at' + 1) (nextT p b).t hr2 her (by rw [har])
    · have ep : playT p (b :: r) = ((playT p r).1, (nextT p b).e :: (playT p r).2) := by simp only [playT, decide_eq_false h, cond_false]
      rw [ep] at he hrow
      obtain ⟨hel, hev, her⟩ := lat_drop he
      have k2 : decide ((errs.length : Int) ≤ (i : Int)) = false := decide_eq_false (by omega)
      have k3 : decide ((i : Int) < (errs.length : Int)) = true := decide_eq_true (by omega)
      rw [lfp_inl (x' := ((row, errs, (at' : Int), scr, (scr.length : Int), ((i + 1 : Nat) : Int), ()), (), ())) (by
        simp only [g_law22_HistoryReplaced_r1, k1, k2, k3, hx, hev, hi2, decide_eq_false h, Int.natCast_nonneg, decide_true, Bool.and_self, cond_true, cond_false, Bool.not_false])]
      exact rep_loop row errs scr hs hr r (i + 1) at' p hr2 her hrow
theorem eq_law22_HistoryReplaced : Eqs c_law22_HistoryReplaced g_law22_HistoryReplaced := Eqs.tot fun (s, _) hf => by
  change List Batch at s
  have hs : s.length * 48 ≤ 140737488355328 := (Fine.list.1 hf.1).1
  show g_law22_HistoryReplaced (s, ()) = some (true, ())
  have hl := row_len s
  have hlp := rep_loop (rowOfS s) (errsOfS s) s hs hl s 0 0 startT rfl rfl rfl
  simp only [g_law22_HistoryReplaced]
  rw [show lfp g_law22_HistoryReplaced_r1 ((rowOfS s, errsOfS s, 0, s, (s.length : Int), 0, ()), (), ()) = _ from hlp]
  have w : IntKind.wrap IntKind.i64 (((rowOfS s).length : Int) - 1) = ((rowOfS s).length : Int) - 1 := i64_in _ (by omega)
  simp only [Option.bind_some, Sum.elim_inr, w, decide_true]

/-! ### HistoryExcuses -/
theorem chain_at : ∀ (r : List Tree) (p : Tree), chainB p r = true → ∀ (i : Nat) (a t : Tree), (p :: r)[i]? = some a → (p :: r)[i + 1]? = some t → stepB a t = true
  | [], p, _, i, a, t, _, h2 => by simp at h2
  | x :: r, p, h, i, a, t, h1, h2 => by
    simp only [chainB, Bool.and_eq_true] at h
    cases i with
    | zero =>
      simp only [List.getElem?_cons_zero, Option.some.injEq] at h1
      simp only [List.getElem?_cons_succ, List.getElem?_cons_zero, Option.some.injEq] at h2
      subst h1; subst h2
      exact h.1
    | succ i =>
      rw [List.getElem?_cons_succ] at h1
      rw [List.getElem?_cons_succ] at h2
      exact chain_at r x h.2 i a t h1 h2
theorem root_below : allN 64 (fun s => below 0 (leaf s)) = true := by decide +kernel
/-- Who is on and didn't leave is on at the same seat. -/
theorem stay_find {t : Tree} {b : Batch} (h : (nextT t b).e = 0) {w : Int} (hf : 0 ≤ findR t.Roster w) (hw : w ∉ b.Leaves) : findR (nextT t b).t.Roster w = findR t.Roster w := by
  obtain ⟨s, hs, he, hon, hwho, _⟩ := findR_some hf
  have hsame : ent (nextT t b).t.Roster s = ent t.Roster s := by
    rcases nx_seat h s hs with ⟨x, hx, hxs⟩ | ⟨_, ⟨_, hm, _⟩ | ⟨_, hz⟩⟩
    · obtain ⟨i, k, _, _, _, hk, _, hl⟩ := nx_joined_at h hx
      have : k = s := by omega
      subst this
      exact absurd (hwho ▸ hl hon) hw
    · exact absurd (hwho ▸ hm) hw
    · exact hz
  have hon2 : isOn (nextT t b).t.Roster s = true := by rw [isOn, hsame]; exact hon
  have := findR_self (goodR_iff.2 (nx_roster h)) hs hon2
  rw [hsame, hwho] at this
  rw [this, he]
theorem exc_stay {t : Tree} {b : Batch} (h : (nextT t b).e = 0) {v : Nat} (hv : v < 21) (hk : (Arr.get (nextT t b).t.Keys (v : Int)).Base = (Arr.get t.Keys (v : Int)).Base) {w : Int} (_ : 0 ≤ findR t.Roster w) (hb : below v (leaf (findR t.Roster w)) = true) : w ∉ b.Leaves := by
  intro hw
  have hr := rep_at h hv
  rw [decide_eq_true hk.symm, replaced_eq, inB_word hv] at hr
  have : hitB (nextT t b).left v = true := by
    unfold hitB
    refine List.any_eq_true.2 ⟨⟨w, findR t.Roster w⟩, ?_, hb⟩
    rw [nx_left h]
    exact List.mem_map.2 ⟨w, hw, rfl⟩
  rw [this] at hr
  cases hr
theorem onR_next {row : List Tree} {who fr : Int} {e : Nat} (h : onR row who fr e = true) (hl : e + 1 < row.length) (hf : 0 ≤ findR (lat row ((e + 1 : Nat) : Int)).Roster who) : onR row who fr ((e + 1 : Nat) : Int) = true := by
  have hin := onR_in h
  unfold onR at h ⊢
  simp only [Bool.and_eq_true, decide_eq_true_eq, allN_iff] at h ⊢
  refine ⟨⟨⟨hin.1, by omega⟩, by omega⟩, fun i hi => ?_⟩
  by_cases he : i < ((e : Int) - fr + 1).toNat
  · exact h.2 i he
  · have : fr + (i : Int) = ((e + 1 : Nat) : Int) := by omega
    rw [this]; exact hf
theorem onR_last {row : List Tree} {who fr : Int} {e : Int} (h : onR row who fr e = true) : 0 ≤ findR (lat row e).Roster who := by
  have hin := onR_in h
  unfold onR at h
  simp only [Bool.and_eq_true, decide_eq_true_eq, allN_iff] at h
  have := h.2 (e - fr).toNat (by omega)
  rwa [show fr + (((e - fr).toNat : Nat) : Int) = e by omega] at this
theorem excR_iff {row : List Tree} {seen : List Reveal} {e v : Int} : excR row seen e v = true ↔ 0 ≤ v ∧ v < 21 ∧ ∃ x ∈ seen, onR row x.Who x.Epoch e = true ∧ below v (leaf (findR (lat row e).Roster x.Who)) = true := by
  unfold excR
  simp only [Bool.and_eq_true, decide_eq_true_eq, List.any_eq_true, and_assoc]
theorem exc_root {row : List Tree} {seen : List Reveal} {e v : Int} (h : excR row seen e v = true) : excR row seen e 0 = true := by
  obtain ⟨_, _, x, hx, ho, _⟩ := excR_iff.1 h
  have hf := onR_last ho
  have hlt := findR_lt (lat row e).Roster x.Who
  refine excR_iff.2 ⟨by omega, by omega, x, hx, ho, ?_⟩
  have := allN_iff.1 root_below (findR (lat row e).Roster x.Who).toNat (by omega)
  rwa [show (((findR (lat row e).Roster x.Who).toNat : Nat) : Int) = findR (lat row e).Roster x.Who by omega] at this
theorem exc_next {row : List Tree} (hr : rightR row = true) {seen : List Reveal} {e v : Nat} (hv : v < 21) (hl : e + 1 < row.length) (h : excR row seen e v = true) (hk : (Arr.get (lat row ((e + 1 : Nat) : Int)).Keys (v : Int)).Base = (Arr.get (lat row (e : Int)).Keys (v : Int)).Base) : excR row seen ((e + 1 : Nat) : Int) v = true := by
  obtain ⟨_, _, x, hx, ho, hb⟩ := excR_iff.1 h
  have hst : stepB (lat row (e : Int)) (lat row ((e + 1 : Nat) : Int)) = true := by
    cases row with
    | nil => cases hr
    | cons s r =>
      have hr : (decide (s = startT) && chainB s r) = true := hr
      rw [Bool.and_eq_true] at hr
      rw [lat_nat _ e (by omega), lat_nat _ (e + 1) hl]
      exact chain_at r s hr.2 e _ _ (List.getElem?_eq_getElem (by omega)) (List.getElem?_eq_getElem hl)
  obtain ⟨he, ht⟩ := step_of hst
  have hf := onR_last ho
  rw [← ht] at hk
  have hno := exc_stay he hv hk hf hb
  have hs := stay_find he hf hno
  rw [ht] at hs
  refine excR_iff.2 ⟨by omega, by omega, x, hx, onR_next ho hl (by rw [hs]; exact hf), ?_⟩
  rw [hs]; exact hb
theorem exc_inner (row : List Tree) (hr : rightR row = true) (hl : row.length ≤ 201) (seen : List Reveal) (e : Nat) (he : e < row.length) :
    lfp g_law22_HistoryExcuses_r2 ((seen, row, (e : Int), 0, ()), (), ()) = some (Sum.inr ((seen, row, (e : Int), ()), (), ())) := by
  rw [lfp_run' (fun v => ((seen, row, (e : Int), (v : Int), ()), (), ())) 21 (by rfl) fun v hv => by
    have k1 : decide ((v : Int) < 21) = true := decide_eq_true (by omega)
    have k2 : decide ((e : Int) < (row.length : Int)) = true := decide_eq_true (by omega)
    simp only [g_law22_HistoryExcuses_r2, k1, k2, wrap1 v (by omega), wrap1 e (by omega), Int.natCast_nonneg, decide_true, Bool.and_self, cond_true, Bool.true_and]
    cases hx : excR row seen (e : Int) (v : Int) with
    | false => rfl
    | true =>
      simp only [exc_root hx, Bool.not_true, cond_false]
      by_cases h1 : e + 1 < row.length
      · have k3 : decide (((e + 1 : Nat) : Int) < (row.length : Int)) = true := decide_eq_true (by omega)
        simp only [k3, cond_true]
        by_cases hk : (Arr.get (lat row ((e + 1 : Nat) : Int)).Keys (v : Int)).Base = (Arr.get (lat row (e : Int)).Keys (v : Int)).Base
        · rw [decide_eq_true hk, exc_next hr hv h1 hx hk]; rfl
        · rw [decide_eq_false hk]; rfl
      · have k3 : decide (((e + 1 : Nat) : Int) < (row.length : Int)) = false := decide_eq_false (by omega)
        simp only [k3, cond_false]]
  exact lfp_inr (by simp only [g_law22_HistoryExcuses_r2]; rfl)
theorem eq_law22_HistoryExcuses : Eqs c_law22_HistoryExcuses g_law22_HistoryExcuses := Eqs.tot fun (s, seen, _) _ => by
  change List Batch at s; change List Reveal at seen
  show g_law22_HistoryExcuses (s, seen, ()) = some (true, ())
  have hl := row_len s
  have hr := right_play s
  have hlp : lfp g_law22_HistoryExcuses_r1 ((seen, rowOfS s, 0, ()), (), ()) = some (Sum.inr ((), (), ())) := by
    rw [lfp_run' (fun e => ((seen, rowOfS s, (e : Int), ()), (), ())) (min (rowOfS s).length 30) (by rfl) fun e he => by
      have k1 : decide ((e : Int) < ((rowOfS s).length : Int)) = true := decide_eq_true (by omega)
      have k2 : decide ((e : Int) < 30) = true := decide_eq_true (by omega)
      simp only [g_law22_HistoryExcuses_r1, k1, k2, cond_true, exc_inner (rowOfS s) hr hl seen e (by omega), Option.bind_some, Sum.elim_inr, wrap1 e (by omega)]]
    refine lfp_inr ?_
    by_cases hc : (rowOfS s).length ≤ 30
    · have d1 : decide (((min (rowOfS s).length 30 : Nat) : Int) < ((rowOfS s).length : Int)) = false := decide_eq_false (by omega)
      simp only [g_law22_HistoryExcuses_r1, d1, cond_false]
    · have d2 : decide (((min (rowOfS s).length 30 : Nat) : Int) < 30) = false := decide_eq_false (by omega)
      simp only [g_law22_HistoryExcuses_r1, d2, cond_false]
      cases decide (((min (rowOfS s).length 30 : Nat) : Int) < ((rowOfS s).length : Int)) <;> rfl
  simp only [g_law22_HistoryExcuses]
  rw [hlp]; rfl
end Go.Co.N
end

section
namespace Go.Proofs.YtghlolinkmlkeaaGreatDoor
open Go Go.Co Go.Co.N Go.Proofs
noncomputable def L_key_Good : List (Nat × LD) := []
noncomputable def Ls_key_Good : List (Nat × List (Nat × LD)) := []
noncomputable def B_key_Good : Bodies := []
theorem run_key_Good (x : denL [(.st .key)]) : run [] L_key_Good Ls_key_Good B_key_Good Tryz.f117 [(.st .key)] [.bool] x = g_key_Good x := by kernel_rfl
theorem ok_key_Good : ConOK Tryz.prog 117 c_key_Good := con_ok (ConsOK.nil) L_key_Good Ls_key_Good (B := B_key_Good) (BodiesOK.nil) Tryz.func117 rfl fun x y hf h => (run_key_Good x).trans (eq_key_Good x y hf h)
noncomputable def L_ref02_Good : List (Nat × LD) := []
noncomputable def Ls_ref02_Good : List (Nat × List (Nat × LD)) := []
noncomputable def B_ref02_Good : Bodies := []
theorem run_ref02_Good (x : denL [(.st .key)]) : run [] L_ref02_Good Ls_ref02_Good B_ref02_Good Tryz.f133 [(.st .key)] [.bool] x = g_ref02_Good x := by kernel_rfl
theorem ok_ref02_Good : ConOK Tryz.prog 133 c_ref02_Good := con_ok (ConsOK.nil) L_ref02_Good Ls_ref02_Good (B := B_ref02_Good) (BodiesOK.nil) Tryz.func133 rfl fun x y hf h => (run_ref02_Good x).trans (eq_ref02_Good x y hf h)
noncomputable def L_ref02_Ahead : List (Nat × LD) := [(6, ⟨⟨[(1, .hole .i), (2, .ptr 0 []), (4, .ptr 1 []), (6, .hole .i)], [(0, (.st .key), .hole (.st .key)), (1, (.st .key), .hole (.st .key))], []⟩, [(.exit 0, ⟨[(2, .ptr 0 []), (4, .ptr 1 [])], [(0, (.st .key), .hole (.st .key)), (1, (.st .key), .hole (.st .key))], []⟩)], 10, []⟩)]
noncomputable def Ls_ref02_Ahead : List (Nat × List (Nat × LD)) := []
noncomputable def B_ref02_Ahead : Bodies := []
theorem run_ref02_Ahead (x : denL [(.st .key), .i]) : run [(133, c_ref02_Good)] L_ref02_Ahead Ls_ref02_Ahead B_ref02_Ahead Tryz.f106 [(.st .key), .i] [(.st .key), .i] x = g_ref02_Ahead x := by kernel_rfl
theorem ok_ref02_Ahead : ConOK Tryz.prog 106 c_ref02_Ahead := con_ok (ConsOK.cons ok_ref02_Good (ConsOK.nil)) L_ref02_Ahead Ls_ref02_Ahead (B := B_ref02_Ahead) (BodiesOK.nil) Tryz.func106 rfl fun x y hf h => (run_ref02_Ahead x).trans (eq_ref02_Ahead x y hf h)
noncomputable def L_key_Ahead : List (Nat × LD) := []
noncomputable def Ls_key_Ahead : List (Nat × List (Nat × LD)) := []
noncomputable def B_key_Ahead : Bodies := []
theorem run_key_Ahead (x : denL [(.st .key), .i]) : run [(117, c_key_Good)] L_key_Ahead Ls_key_Ahead B_key_Ahead Tryz.f114 [(.st .key), .i] [(.st .key), .i] x = g_key_Ahead x := by kernel_rfl
theorem ok_key_Ahead : ConOK Tryz.prog 114 c_key_Ahead := con_ok (ConsOK.cons ok_key_Good (ConsOK.nil)) L_key_Ahead Ls_key_Ahead (B := B_key_Ahead) (BodiesOK.nil) Tryz.func114 rfl fun x y hf h => (run_key_Ahead x).trans (eq_key_Ahead x y hf h)
noncomputable def L_key_Seal : List (Nat × LD) := []
noncomputable def Ls_key_Seal : List (Nat × List (Nat × LD)) := []
noncomputable def B_key_Seal : Bodies := []
theorem run_key_Seal (x : denL [(.st .key), (.st .key)]) : run [(117, c_key_Good)] L_key_Seal Ls_key_Seal B_key_Seal Tryz.f80 [(.st .key), (.st .key)] [(.st .box), .i] x = g_key_Seal x := by kernel_rfl
theorem ok_key_Seal : ConOK Tryz.prog 80 c_key_Seal := con_ok (ConsOK.cons ok_key_Good (ConsOK.nil)) L_key_Seal Ls_key_Seal (B := B_key_Seal) (BodiesOK.nil) Tryz.func80 rfl fun x y hf h => (run_key_Seal x).trans (eq_key_Seal x y hf h)
noncomputable def L_ratchet_Check : List (Nat × LD) := [(3, ⟨⟨[(3, .mp 1), (7, .hole (.arr 21 (.st .key))), (8, .hole .i)], [], [(1, .i, .i)]⟩, [(.ret, ⟨[(2, .hole .i)], [], []⟩), (.exit 0, ⟨[], [], []⟩)], 11, []⟩)]
noncomputable def Ls_ratchet_Check : List (Nat × List (Nat × LD)) := []
noncomputable def B_ratchet_Check : Bodies := []
theorem run_ratchet_Check (x : denL [(.arr 21 (.st .key))]) : run [(117, c_key_Good)] L_ratchet_Check Ls_ratchet_Check B_ratchet_Check Tryz.f108 [(.arr 21 (.st .key))] [.i] x = g_ratchet_Check x := by kernel_rfl
theorem ok_ratchet_Check : ConOK Tryz.prog 108 c_ratchet_Check := con_ok (ConsOK.cons ok_key_Good (ConsOK.nil)) L_ratchet_Check Ls_ratchet_Check (B := B_ratchet_Check) (BodiesOK.nil) Tryz.func108 rfl fun x y hf h => (run_ratchet_Check x).trans (eq_ratchet_Check x y hf h)
noncomputable def L_ref10_Check : List (Nat × LD) := [(7, ⟨⟨[(1, .ptr 0 []), (3, .hole .i), (4, .hole .i)], [(0, (.arr 21 (.st .key)), .hole (.arr 21 (.st .key)))], []⟩, [(.ret, ⟨[(2, .hole .i)], [], []⟩), (.exit 2, ⟨[(1, .ptr 0 []), (3, .hole .i)], [(0, (.arr 21 (.st .key)), .hole (.arr 21 (.st .key)))], []⟩)], 10, []⟩), (2, ⟨⟨[(1, .ptr 0 []), (3, .hole .i)], [(0, (.arr 21 (.st .key)), .hole (.arr 21 (.st .key)))], []⟩, [(.ret, ⟨[(2, .hole .i)], [], []⟩), (.exit 0, ⟨[], [], []⟩)], 20, []⟩)]
noncomputable def Ls_ref10_Check : List (Nat × List (Nat × LD)) := []
noncomputable def B_ref10_Check : Bodies := []
theorem run_ref10_Check (x : denL [(.arr 21 (.st .key))]) : run [(133, c_ref02_Good)] L_ref10_Check Ls_ref10_Check B_ref10_Check Tryz.f100 [(.arr 21 (.st .key))] [.i] x = g_ref10_Check x := by kernel_rfl
theorem ok_ref10_Check : ConOK Tryz.prog 100 c_ref10_Check := con_ok (ConsOK.cons ok_ref02_Good (ConsOK.nil)) L_ref10_Check Ls_ref10_Check (B := B_ref10_Check) (BodiesOK.nil) Tryz.func100 rfl fun x y hf h => (run_ref10_Check x).trans (eq_ref10_Check x y hf h)
noncomputable def L_ratchet_free : List (Nat × LD) := [(6, ⟨⟨[(1, .hole .i), (2, .hole .i), (19, .hole (.arr 21 (.st .key))), (20, .hole .i)], [], []⟩, [(.ret, ⟨[(6, .hole .bool)], [], []⟩), (.exit 0, ⟨[], [], []⟩)], 11, []⟩)]
noncomputable def Ls_ratchet_free : List (Nat × List (Nat × LD)) := []
noncomputable def B_ratchet_free : Bodies := []
theorem run_ratchet_free (x : denL [(.arr 21 (.st .key)), .i, .i]) : run [] L_ratchet_free Ls_ratchet_free B_ratchet_free Tryz.f113 [(.arr 21 (.st .key)), .i, .i] [.bool] x = g_ratchet_free x := by kernel_rfl
theorem ok_ratchet_free : ConOK Tryz.prog 113 c_ratchet_free := con_ok (ConsOK.nil) L_ratchet_free Ls_ratchet_free (B := B_ratchet_free) (BodiesOK.nil) Tryz.func113 rfl fun x y hf h => (run_ratchet_free x).trans (eq_ratchet_free x y hf h)
noncomputable def L_ratchet_LeafAt : List (Nat × LD) := []
noncomputable def Ls_ratchet_LeafAt : List (Nat × List (Nat × LD)) := []
noncomputable def B_ratchet_LeafAt : Bodies := []
theorem run_ratchet_LeafAt (x : denL [(.st .entry), .i]) : run [(114, c_key_Ahead)] L_ratchet_LeafAt Ls_ratchet_LeafAt B_ratchet_LeafAt Tryz.f119 [(.st .entry), .i] [(.st .key), .i] x = g_ratchet_LeafAt x := by kernel_rfl
theorem ok_ratchet_LeafAt : ConOK Tryz.prog 119 c_ratchet_LeafAt := con_ok (ConsOK.cons ok_key_Ahead (ConsOK.nil)) L_ratchet_LeafAt Ls_ratchet_LeafAt (B := B_ratchet_LeafAt) (BodiesOK.nil) Tryz.func119 rfl fun x y hf h => (run_ratchet_LeafAt x).trans (eq_ratchet_LeafAt x y hf h)
noncomputable def L_ref10_LeafAt : List (Nat × LD) := []
noncomputable def Ls_ref10_LeafAt : List (Nat × List (Nat × LD)) := []
noncomputable def B_ref10_LeafAt : Bodies := []
theorem run_ref10_LeafAt (x : denL [(.st .entry), .i]) : run [] L_ref10_LeafAt Ls_ref10_LeafAt B_ref10_LeafAt Tryz.f137 [(.st .entry), .i] [(.st .key), .i] x = g_ref10_LeafAt x := by kernel_rfl
theorem ok_ref10_LeafAt : ConOK Tryz.prog 137 c_ref10_LeafAt := con_ok (ConsOK.nil) L_ref10_LeafAt Ls_ref10_LeafAt (B := B_ref10_LeafAt) (BodiesOK.nil) Tryz.func137 rfl fun x y hf h => (run_ref10_LeafAt x).trans (eq_ref10_LeafAt x y hf h)
noncomputable def L_bits_OnesCount32 : List (Nat × LD) := []
noncomputable def Ls_bits_OnesCount32 : List (Nat × List (Nat × LD)) := []
noncomputable def B_bits_OnesCount32 : Bodies := []
theorem run_bits_OnesCount32 (x : denL [(.int .u32)]) : run [] L_bits_OnesCount32 Ls_bits_OnesCount32 B_bits_OnesCount32 Tryz.f76 [(.int .u32)] [.i] x = g_bits_OnesCount32 x := by kernel_rfl
theorem ok_bits_OnesCount32 : ConOK Tryz.prog 76 c_bits_OnesCount32 := con_ok (ConsOK.nil) L_bits_OnesCount32 Ls_bits_OnesCount32 (B := B_bits_OnesCount32) (BodiesOK.nil) Tryz.func76 rfl fun x y hf h => (run_bits_OnesCount32 x).trans (eq_bits_OnesCount32 x y hf h)
noncomputable def L_ratchet_Turn : List (Nat × LD) := [(8, ⟨⟨[(1, .hole (.int .u32)), (2, .hole .i), (3, .ptr 0 []), (6, .ptr 1 []), (31, .hole .i)], [(0, (.arr 21 (.st .key)), .hole (.arr 21 (.st .key))), (1, (.arr 21 (.st .key)), .hole (.arr 21 (.st .key)))], []⟩, [(.ret, ⟨[(6, .ptr 1 []), (7, .hole .i), (8, .hole .i)], [(1, (.arr 21 (.st .key)), .hole (.arr 21 (.st .key)))], []⟩), (.exit 1, ⟨[(2, .hole .i), (3, .ptr 0 []), (6, .ptr 1 [])], [(0, (.arr 21 (.st .key)), .hole (.arr 21 (.st .key))), (1, (.arr 21 (.st .key)), .hole (.arr 21 (.st .key)))], []⟩)], 11, []⟩)]
noncomputable def Ls_ratchet_Turn : List (Nat × List (Nat × LD)) := []
noncomputable def B_ratchet_Turn : Bodies := []
theorem run_ratchet_Turn (x : denL [(.arr 21 (.st .key)), (.int .u32), .i]) : run [(108, c_ratchet_Check), (76, c_bits_OnesCount32), (113, c_ratchet_free), (114, c_key_Ahead)] L_ratchet_Turn Ls_ratchet_Turn B_ratchet_Turn Tryz.f77 [(.arr 21 (.st .key)), (.int .u32), .i] [(.arr 21 (.st .key)), .i, .i] x = g_ratchet_Turn x := by kernel_rfl
theorem ok_ratchet_Turn : ConOK Tryz.prog 77 c_ratchet_Turn := con_ok (ConsOK.cons ok_ratchet_Check (ConsOK.cons ok_bits_OnesCount32 (ConsOK.cons ok_ratchet_free (ConsOK.cons ok_key_Ahead (ConsOK.nil))))) L_ratchet_Turn Ls_ratchet_Turn (B := B_ratchet_Turn) (BodiesOK.nil) Tryz.func77 rfl fun x y hf h => (run_ratchet_Turn x).trans (eq_ratchet_Turn x y hf h)
noncomputable def L_ref01_In : List (Nat × LD) := [(4, ⟨⟨[(0, .hole (.int .u32)), (1, .hole .i), (5, .hole .i)], [], []⟩, [(.exit 0, ⟨[(0, .hole (.int .u32))], [], []⟩)], 10, []⟩)]
noncomputable def Ls_ref01_In : List (Nat × List (Nat × LD)) := []
noncomputable def B_ref01_In : Bodies := []
theorem run_ref01_In (x : denL [(.int .u32), .i]) : run [] L_ref01_In Ls_ref01_In B_ref01_In Tryz.f24 [(.int .u32), .i] [.bool] x = g_ref01_In x := by kernel_rfl
theorem ok_ref01_In : ConOK Tryz.prog 24 c_ref01_In := con_ok (ConsOK.nil) L_ref01_In Ls_ref01_In (B := B_ref01_In) (BodiesOK.nil) Tryz.func24 rfl fun x y hf h => (run_ref01_In x).trans (eq_ref01_In x y hf h)
noncomputable def L_ref10_count : List (Nat × LD) := [(3, ⟨⟨[(0, .hole (.int .u32)), (3, .hole .i), (4, .hole .i)], [], []⟩, [(.exit 0, ⟨[(3, .hole .i)], [], []⟩)], 10, []⟩)]
noncomputable def Ls_ref10_count : List (Nat × List (Nat × LD)) := []
noncomputable def B_ref10_count : Bodies := []
theorem run_ref10_count (x : denL [(.int .u32)]) : run [(24, c_ref01_In)] L_ref10_count Ls_ref10_count B_ref10_count Tryz.f105 [(.int .u32)] [.i] x = g_ref10_count x := by kernel_rfl
theorem ok_ref10_count : ConOK Tryz.prog 105 c_ref10_count := con_ok (ConsOK.cons ok_ref01_In (ConsOK.nil)) L_ref10_count Ls_ref10_count (B := B_ref10_count) (BodiesOK.nil) Tryz.func105 rfl fun x y hf h => (run_ref10_count x).trans (eq_ref10_count x y hf h)
noncomputable def L_ref10_Turn : List (Nat × LD) := [(4, ⟨⟨[(1, .hole (.int .u32)), (2, .hole .i), (3, .ptr 0 []), (6, .ptr 1 []), (9, .hole .i)], [(0, (.arr 21 (.st .key)), .hole (.arr 21 (.st .key))), (1, (.arr 21 (.st .key)), .hole (.arr 21 (.st .key)))], []⟩, [(.ret, ⟨[(6, .ptr 1 []), (7, .hole .i), (8, .hole .i)], [(1, (.arr 21 (.st .key)), .hole (.arr 21 (.st .key)))], []⟩), (.exit 0, ⟨[(1, .hole (.int .u32)), (2, .hole .i), (3, .ptr 0 []), (6, .ptr 1 [])], [(0, (.arr 21 (.st .key)), .hole (.arr 21 (.st .key))), (1, (.arr 21 (.st .key)), .hole (.arr 21 (.st .key)))], []⟩)], 10, []⟩), (12, ⟨⟨[(1, .hole (.int .u32)), (2, .hole .i), (3, .ptr 0 []), (6, .ptr 1 []), (10, .hole .i), (11, .hole .i)], [(0, (.arr 21 (.st .key)), .hole (.arr 21 (.st .key))), (1, (.arr 21 (.st .key)), .hole (.arr 21 (.st .key)))], []⟩, [(.ret, ⟨[(6, .ptr 1 []), (7, .hole .i), (8, .hole .i)], [(1, (.arr 21 (.st .key)), .hole (.arr 21 (.st .key)))], []⟩), (.exit 2, ⟨[(1, .hole (.int .u32)), (2, .hole .i), (3, .ptr 0 []), (6, .ptr 1 [])], [(0, (.arr 21 (.st .key)), .hole (.arr 21 (.st .key))), (1, (.arr 21 (.st .key)), .hole (.arr 21 (.st .key)))], []⟩)], 10, []⟩), (17, ⟨⟨[(1, .hole (.int .u32)), (2, .hole .i), (3, .ptr 0 []), (6, .ptr 1 []), (12, .hole .i)], [(0, (.arr 21 (.st .key)), .hole (.arr 21 (.st .key))), (1, (.arr 21 (.st .key)), .hole (.arr 21 (.st .key)))], []⟩, [(.ret, ⟨[(6, .ptr 1 []), (7, .hole .i), (8, .hole .i)], [(1, (.arr 21 (.st .key)), .hole (.arr 21 (.st .key)))], []⟩), (.exit 4, ⟨[(2, .hole .i), (3, .ptr 0 []), (6, .ptr 1 [])], [(0, (.arr 21 (.st .key)), .hole (.arr 21 (.st .key))), (1, (.arr 21 (.st .key)), .hole (.arr 21 (.st .key)))], []⟩)], 11, []⟩)]
noncomputable def Ls_ref10_Turn : List (Nat × List (Nat × LD)) := []
noncomputable def B_ref10_Turn : Bodies := []
theorem run_ref10_Turn (x : denL [(.arr 21 (.st .key)), (.int .u32), .i]) : run [(100, c_ref10_Check), (24, c_ref01_In), (105, c_ref10_count), (106, c_ref02_Ahead)] L_ref10_Turn Ls_ref10_Turn B_ref10_Turn Tryz.f66 [(.arr 21 (.st .key)), (.int .u32), .i] [(.arr 21 (.st .key)), .i, .i] x = g_ref10_Turn x := by kernel_rfl
theorem ok_ref10_Turn : ConOK Tryz.prog 66 c_ref10_Turn := con_ok (ConsOK.cons ok_ref10_Check (ConsOK.cons ok_ref01_In (ConsOK.cons ok_ref10_count (ConsOK.cons ok_ref02_Ahead (ConsOK.nil))))) L_ref10_Turn Ls_ref10_Turn (B := B_ref10_Turn) (BodiesOK.nil) Tryz.func66 rfl fun x y hf h => (run_ref10_Turn x).trans (eq_ref10_Turn x y hf h)
noncomputable def L_ref01_Node : List (Nat × LD) := []
noncomputable def Ls_ref01_Node : List (Nat × List (Nat × LD)) := []
noncomputable def B_ref01_Node : Bodies := []
theorem run_ref01_Node (x : denL [.i]) : run [] L_ref01_Node Ls_ref01_Node B_ref01_Node Tryz.f98 [.i] [.bool] x = g_ref01_Node x := by kernel_rfl
theorem ok_ref01_Node : ConOK Tryz.prog 98 c_ref01_Node := con_ok (ConsOK.nil) L_ref01_Node Ls_ref01_Node (B := B_ref01_Node) (BodiesOK.nil) Tryz.func98 rfl fun x y hf h => (run_ref01_Node x).trans (eq_ref01_Node x y hf h)
noncomputable def L_ref01_Child : List (Nat × LD) := []
noncomputable def Ls_ref01_Child : List (Nat × List (Nat × LD)) := []
noncomputable def B_ref01_Child : Bodies := []
theorem run_ref01_Child (x : denL [.i, .i]) : run [] L_ref01_Child Ls_ref01_Child B_ref01_Child Tryz.f68 [.i, .i] [.i] x = g_ref01_Child x := by kernel_rfl
theorem ok_ref01_Child : ConOK Tryz.prog 68 c_ref01_Child := con_ok (ConsOK.nil) L_ref01_Child Ls_ref01_Child (B := B_ref01_Child) (BodiesOK.nil) Tryz.func68 rfl fun x y hf h => (run_ref01_Child x).trans (eq_ref01_Child x y hf h)
noncomputable def L_ref01_Parent : List (Nat × LD) := [(7, ⟨⟨[(0, .hole .i), (3, .hole .i), (4, .hole .i)], [], []⟩, [(.ret, ⟨[(2, .hole .i)], [], []⟩), (.exit 2, ⟨[(0, .hole .i), (3, .hole .i)], [], []⟩)], 10, []⟩), (4, ⟨⟨[(0, .hole .i), (3, .hole .i)], [], []⟩, [(.ret, ⟨[(2, .hole .i)], [], []⟩), (.exit 0, ⟨[], [], []⟩)], 20, []⟩)]
noncomputable def Ls_ref01_Parent : List (Nat × List (Nat × LD)) := []
noncomputable def B_ref01_Parent : Bodies := []
theorem run_ref01_Parent (x : denL [.i]) : run [(68, c_ref01_Child)] L_ref01_Parent Ls_ref01_Parent B_ref01_Parent Tryz.f99 [.i] [.i] x = g_ref01_Parent x := by kernel_rfl
theorem ok_ref01_Parent : ConOK Tryz.prog 99 c_ref01_Parent := con_ok (ConsOK.cons ok_ref01_Child (ConsOK.nil)) L_ref01_Parent Ls_ref01_Parent (B := B_ref01_Parent) (BodiesOK.nil) Tryz.func99 rfl fun x y hf h => (run_ref01_Parent x).trans (eq_ref01_Parent x y hf h)
noncomputable def L_ref01_Leaf : List (Nat × LD) := []
noncomputable def Ls_ref01_Leaf : List (Nat × List (Nat × LD)) := []
noncomputable def B_ref01_Leaf : Bodies := []
theorem run_ref01_Leaf (x : denL [.i]) : run [] L_ref01_Leaf Ls_ref01_Leaf B_ref01_Leaf Tryz.f45 [.i] [.i] x = g_ref01_Leaf x := by kernel_rfl
theorem ok_ref01_Leaf : ConOK Tryz.prog 45 c_ref01_Leaf := con_ok (ConsOK.nil) L_ref01_Leaf Ls_ref01_Leaf (B := B_ref01_Leaf) (BodiesOK.nil) Tryz.func45 rfl fun x y hf h => (run_ref01_Leaf x).trans (eq_ref01_Leaf x y hf h)
noncomputable def L_ref01_Path : List (Nat × LD) := [(6, ⟨⟨[(2, .ptr 0 []), (4, .ptr 1 []), (5, .hole .i), (6, .hole .i)], [(0, (.arr 3 .i), .hole (.arr 3 .i)), (1, (.arr 3 .i), .hole (.arr 3 .i))], []⟩, [(.exit 0, ⟨[(2, .ptr 0 []), (4, .ptr 1 [])], [(0, (.arr 3 .i), .hole (.arr 3 .i)), (1, (.arr 3 .i), .hole (.arr 3 .i))], []⟩)], 10, []⟩)]
noncomputable def Ls_ref01_Path : List (Nat × List (Nat × LD)) := []
noncomputable def B_ref01_Path : Bodies := []
theorem run_ref01_Path (x : denL [.i]) : run [(45, c_ref01_Leaf), (99, c_ref01_Parent)] L_ref01_Path Ls_ref01_Path B_ref01_Path Tryz.f71 [.i] [(.arr 3 .i), .bool] x = g_ref01_Path x := by kernel_rfl
theorem ok_ref01_Path : ConOK Tryz.prog 71 c_ref01_Path := con_ok (ConsOK.cons ok_ref01_Leaf (ConsOK.cons ok_ref01_Parent (ConsOK.nil))) L_ref01_Path Ls_ref01_Path (B := B_ref01_Path) (BodiesOK.nil) Tryz.func71 rfl fun x y hf h => (run_ref01_Path x).trans (eq_ref01_Path x y hf h)
noncomputable def L_ref01_Below : List (Nat × LD) := [(3, ⟨⟨[(0, .hole .i), (1, .hole .i)], [], []⟩, [(.exit 0, ⟨[(0, .hole .i), (1, .hole .i)], [], []⟩)], 10, []⟩)]
noncomputable def Ls_ref01_Below : List (Nat × List (Nat × LD)) := []
noncomputable def B_ref01_Below : Bodies := []
theorem run_ref01_Below (x : denL [.i, .i]) : run [(98, c_ref01_Node), (99, c_ref01_Parent)] L_ref01_Below Ls_ref01_Below B_ref01_Below Tryz.f63 [.i, .i] [.bool] x = g_ref01_Below x := by kernel_rfl
theorem ok_ref01_Below : ConOK Tryz.prog 63 c_ref01_Below := con_ok (ConsOK.cons ok_ref01_Node (ConsOK.cons ok_ref01_Parent (ConsOK.nil))) L_ref01_Below Ls_ref01_Below (B := B_ref01_Below) (BodiesOK.nil) Tryz.func63 rfl fun x y hf h => (run_ref01_Below x).trans (eq_ref01_Below x y hf h)
noncomputable def L_shape_first : List (Nat × LD) := []
noncomputable def Ls_shape_first : List (Nat × List (Nat × LD)) := []
noncomputable def B_shape_first : Bodies := []
theorem run_shape_first (x : denL [.i]) : run [] L_shape_first Ls_shape_first B_shape_first Tryz.f96 [.i] [.i] x = g_shape_first x := by kernel_rfl
theorem ok_shape_first : ConOK Tryz.prog 96 c_shape_first := con_ok (ConsOK.nil) L_shape_first Ls_shape_first (B := B_shape_first) (BodiesOK.nil) Tryz.func96 rfl fun x y hf h => (run_shape_first x).trans (eq_shape_first x y hf h)
noncomputable def L_shape_Level : List (Nat × LD) := [(5, ⟨⟨[(0, .hole .i), (3, .hole .i)], [], []⟩, [(.ret, ⟨[(2, .hole .i)], [], []⟩)], 10, []⟩)]
noncomputable def Ls_shape_Level : List (Nat × List (Nat × LD)) := []
noncomputable def B_shape_Level : Bodies := []
theorem run_shape_Level (x : denL [.i]) : run [(96, c_shape_first)] L_shape_Level Ls_shape_Level B_shape_Level Tryz.f61 [.i] [.i] x = g_shape_Level x := by kernel_rfl
theorem ok_shape_Level : ConOK Tryz.prog 61 c_shape_Level := con_ok (ConsOK.cons ok_shape_first (ConsOK.nil)) L_shape_Level Ls_shape_Level (B := B_shape_Level) (BodiesOK.nil) Tryz.func61 rfl fun x y hf h => (run_shape_Level x).trans (eq_shape_Level x y hf h)
noncomputable def L_shape_span : List (Nat × LD) := []
noncomputable def Ls_shape_span : List (Nat × List (Nat × LD)) := []
noncomputable def B_shape_span : Bodies := []
theorem run_shape_span (x : denL [.i]) : run [(61, c_shape_Level), (96, c_shape_first)] L_shape_span Ls_shape_span B_shape_span Tryz.f97 [.i] [.i, .i] x = g_shape_span x := by kernel_rfl
theorem ok_shape_span : ConOK Tryz.prog 97 c_shape_span := con_ok (ConsOK.cons ok_shape_Level (ConsOK.cons ok_shape_first (ConsOK.nil))) L_shape_span Ls_shape_span (B := B_shape_span) (BodiesOK.nil) Tryz.func97 rfl fun x y hf h => (run_shape_span x).trans (eq_shape_span x y hf h)
noncomputable def L_shape_Mask : List (Nat × LD) := []
noncomputable def Ls_shape_Mask : List (Nat × List (Nat × LD)) := []
noncomputable def B_shape_Mask : Bodies := []
theorem run_shape_Mask (x : denL [.i]) : run [(61, c_shape_Level), (97, c_shape_span)] L_shape_Mask Ls_shape_Mask B_shape_Mask Tryz.f62 [.i] [(.int .u64)] x = g_shape_Mask x := by kernel_rfl
theorem ok_shape_Mask : ConOK Tryz.prog 62 c_shape_Mask := con_ok (ConsOK.cons ok_shape_Level (ConsOK.cons ok_shape_span (ConsOK.nil))) L_shape_Mask Ls_shape_Mask (B := B_shape_Mask) (BodiesOK.nil) Tryz.func62 rfl fun x y hf h => (run_shape_Mask x).trans (eq_shape_Mask x y hf h)
noncomputable def L_shape_Slot : List (Nat × LD) := []
noncomputable def Ls_shape_Slot : List (Nat × List (Nat × LD)) := []
noncomputable def B_shape_Slot : Bodies := []
theorem run_shape_Slot (x : denL [.i]) : run [] L_shape_Slot Ls_shape_Slot B_shape_Slot Tryz.f118 [.i] [.i] x = g_shape_Slot x := by kernel_rfl
theorem ok_shape_Slot : ConOK Tryz.prog 118 c_shape_Slot := con_ok (ConsOK.nil) L_shape_Slot Ls_shape_Slot (B := B_shape_Slot) (BodiesOK.nil) Tryz.func118 rfl fun x y hf h => (run_shape_Slot x).trans (eq_shape_Slot x y hf h)
noncomputable def L_shape_Child : List (Nat × LD) := []
noncomputable def Ls_shape_Child : List (Nat × List (Nat × LD)) := []
noncomputable def B_shape_Child : Bodies := []
theorem run_shape_Child (x : denL [.i, .i]) : run [] L_shape_Child Ls_shape_Child B_shape_Child Tryz.f83 [.i, .i] [.i] x = g_shape_Child x := by kernel_rfl
theorem ok_shape_Child : ConOK Tryz.prog 83 c_shape_Child := con_ok (ConsOK.nil) L_shape_Child Ls_shape_Child (B := B_shape_Child) (BodiesOK.nil) Tryz.func83 rfl fun x y hf h => (run_shape_Child x).trans (eq_shape_Child x y hf h)
noncomputable def L_shape_Leaf : List (Nat × LD) := []
noncomputable def Ls_shape_Leaf : List (Nat × List (Nat × LD)) := []
noncomputable def B_shape_Leaf : Bodies := []
theorem run_shape_Leaf (x : denL [.i]) : run [] L_shape_Leaf Ls_shape_Leaf B_shape_Leaf Tryz.f41 [.i] [.i] x = g_shape_Leaf x := by kernel_rfl
theorem ok_shape_Leaf : ConOK Tryz.prog 41 c_shape_Leaf := con_ok (ConsOK.nil) L_shape_Leaf Ls_shape_Leaf (B := B_shape_Leaf) (BodiesOK.nil) Tryz.func41 rfl fun x y hf h => (run_shape_Leaf x).trans (eq_shape_Leaf x y hf h)
noncomputable def L_shape_Path : List (Nat × LD) := [(5, ⟨⟨[(0, .hole .i), (2, .ptr 0 []), (4, .ptr 1 []), (11, .hole .i)], [(0, (.arr 3 .i), .hole (.arr 3 .i)), (1, (.arr 3 .i), .hole (.arr 3 .i))], []⟩, [(.exit 0, ⟨[(2, .ptr 0 []), (4, .ptr 1 [])], [(0, (.arr 3 .i), .hole (.arr 3 .i)), (1, (.arr 3 .i), .hole (.arr 3 .i))], []⟩)], 10, []⟩)]
noncomputable def Ls_shape_Path : List (Nat × List (Nat × LD)) := []
noncomputable def B_shape_Path : Bodies := []
theorem run_shape_Path (x : denL [.i]) : run [(41, c_shape_Leaf), (96, c_shape_first)] L_shape_Path Ls_shape_Path B_shape_Path Tryz.f84 [.i] [(.arr 3 .i), .bool] x = g_shape_Path x := by kernel_rfl
theorem ok_shape_Path : ConOK Tryz.prog 84 c_shape_Path := con_ok (ConsOK.cons ok_shape_Leaf (ConsOK.cons ok_shape_first (ConsOK.nil))) L_shape_Path Ls_shape_Path (B := B_shape_Path) (BodiesOK.nil) Tryz.func84 rfl fun x y hf h => (run_shape_Path x).trans (eq_shape_Path x y hf h)
noncomputable def L_shape_Above : List (Nat × LD) := [(3, ⟨⟨[(0, .hole (.int .u64)), (3, .hole (.int .u32)), (5, .hole .i)], [], []⟩, [(.exit 0, ⟨[(3, .hole (.int .u32))], [], []⟩)], 10, []⟩)]
noncomputable def Ls_shape_Above : List (Nat × List (Nat × LD)) := []
noncomputable def B_shape_Above : Bodies := []
theorem run_shape_Above (x : denL [(.int .u64)]) : run [(62, c_shape_Mask)] L_shape_Above Ls_shape_Above B_shape_Above Tryz.f112 [(.int .u64)] [(.int .u32)] x = g_shape_Above x := by kernel_rfl
theorem ok_shape_Above : ConOK Tryz.prog 112 c_shape_Above := con_ok (ConsOK.cons ok_shape_Mask (ConsOK.nil)) L_shape_Above Ls_shape_Above (B := B_shape_Above) (BodiesOK.nil) Tryz.func112 rfl fun x y hf h => (run_shape_Above x).trans (eq_shape_Above x y hf h)
noncomputable def L_roster_right : List (Nat × LD) := []
noncomputable def Ls_roster_right : List (Nat × List (Nat × LD)) := []
noncomputable def B_roster_right : Bodies := []
theorem run_roster_right (x : denL [(.st .entry)]) : run [] L_roster_right Ls_roster_right B_roster_right Tryz.f138 [(.st .entry)] [.bool] x = g_roster_right x := by kernel_rfl
theorem ok_roster_right : ConOK Tryz.prog 138 c_roster_right := con_ok (ConsOK.nil) L_roster_right Ls_roster_right (B := B_roster_right) (BodiesOK.nil) Tryz.func138 rfl fun x y hf h => (run_roster_right x).trans (eq_roster_right x y hf h)
noncomputable def L_roster_Check : List (Nat × LD) := [(3, ⟨⟨[(3, .mp 1), (4, .mp 2), (9, .hole (.arr 64 (.st .entry))), (10, .hole .i)], [], [(1, .i, .i), (2, .i, .i)]⟩, [(.ret, ⟨[(2, .hole .i)], [], []⟩), (.exit 0, ⟨[], [], []⟩)], 11, []⟩)]
noncomputable def Ls_roster_Check : List (Nat × List (Nat × LD)) := []
noncomputable def B_roster_Check : Bodies := []
theorem run_roster_Check (x : denL [(.arr 64 (.st .entry))]) : run [(138, c_roster_right)] L_roster_Check Ls_roster_Check B_roster_Check Tryz.f109 [(.arr 64 (.st .entry))] [.i] x = g_roster_Check x := by kernel_rfl
theorem ok_roster_Check : ConOK Tryz.prog 109 c_roster_Check := con_ok (ConsOK.cons ok_roster_right (ConsOK.nil)) L_roster_Check Ls_roster_Check (B := B_roster_Check) (BodiesOK.nil) Tryz.func109 rfl fun x y hf h => (run_roster_Check x).trans (eq_roster_Check x y hf h)
noncomputable def L_roster_Find : List (Nat × LD) := []
noncomputable def Ls_roster_Find : List (Nat × List (Nat × LD)) := [(57, [(2, ⟨⟨[(0, .asl 0 []), (1, .fn 58 [1]), (7, .hole .i), (8, .hole .i)], [(0, (.arr 64 (.st .entry)), .hole (.arr 64 (.st .entry))), (1, .i, .hole .i)], []⟩, [(.ret, ⟨[(4, .hole .i)], [(0, (.arr 64 (.st .entry)), .hole (.arr 64 (.st .entry))), (1, .i, .hole .i)], []⟩), (.exit 0, ⟨[], [(0, (.arr 64 (.st .entry)), .hole (.arr 64 (.st .entry))), (1, .i, .hole .i)], []⟩)], 10, []⟩)])]
noncomputable def B_roster_Find : Bodies := [bodyLine 58 Tryz.f58, bodyLine 57 Tryz.f57]
theorem run_roster_Find (x : denL [(.arr 64 (.st .entry)), .i]) : run [] L_roster_Find Ls_roster_Find B_roster_Find Tryz.f36 [(.arr 64 (.st .entry)), .i] [.i] x = g_roster_Find x := by kernel_rfl
theorem ok_roster_Find : ConOK Tryz.prog 36 c_roster_Find := con_ok (ConsOK.nil) L_roster_Find Ls_roster_Find (B := B_roster_Find) (BodiesOK.cons Tryz.func58 rfl (BodiesOK.cons Tryz.func57 rfl (BodiesOK.nil))) Tryz.func36 rfl fun x y hf h => (run_roster_Find x).trans (eq_roster_Find x y hf h)
noncomputable def L_roster_Taken : List (Nat × LD) := [(3, ⟨⟨[(3, .hole (.int .u64)), (6, .hole (.arr 64 (.st .entry))), (7, .hole .i)], [], []⟩, [(.exit 0, ⟨[(3, .hole (.int .u64))], [], []⟩)], 11, []⟩)]
noncomputable def Ls_roster_Taken : List (Nat × List (Nat × LD)) := []
noncomputable def B_roster_Taken : Bodies := []
theorem run_roster_Taken (x : denL [(.arr 64 (.st .entry))]) : run [] L_roster_Taken Ls_roster_Taken B_roster_Taken Tryz.f82 [(.arr 64 (.st .entry))] [(.int .u64)] x = g_roster_Taken x := by kernel_rfl
theorem ok_roster_Taken : ConOK Tryz.prog 82 c_roster_Taken := con_ok (ConsOK.nil) L_roster_Taken Ls_roster_Taken (B := B_roster_Taken) (BodiesOK.nil) Tryz.func82 rfl fun x y hf h => (run_roster_Taken x).trans (eq_roster_Taken x y hf h)
noncomputable def L_ref09_Right : List (Nat × LD) := []
noncomputable def Ls_ref09_Right : List (Nat × List (Nat × LD)) := []
noncomputable def B_ref09_Right : Bodies := []
theorem run_ref09_Right (x : denL [(.st .entry)]) : run [] L_ref09_Right Ls_ref09_Right B_ref09_Right Tryz.f134 [(.st .entry)] [.bool] x = g_ref09_Right x := by kernel_rfl
theorem ok_ref09_Right : ConOK Tryz.prog 134 c_ref09_Right := con_ok (ConsOK.nil) L_ref09_Right Ls_ref09_Right (B := B_ref09_Right) (BodiesOK.nil) Tryz.func134 rfl fun x y hf h => (run_ref09_Right x).trans (eq_ref09_Right x y hf h)
noncomputable def L_ref09_Check : List (Nat × LD) := [(8, ⟨⟨[(1, .ptr 0 []), (3, .hole .i), (4, .hole .i)], [(0, (.arr 64 (.st .entry)), .hole (.arr 64 (.st .entry)))], []⟩, [(.ret, ⟨[(2, .hole .i)], [], []⟩), (.exit 2, ⟨[(1, .ptr 0 []), (3, .hole .i)], [(0, (.arr 64 (.st .entry)), .hole (.arr 64 (.st .entry)))], []⟩)], 10, []⟩), (2, ⟨⟨[(1, .ptr 0 []), (3, .hole .i)], [(0, (.arr 64 (.st .entry)), .hole (.arr 64 (.st .entry)))], []⟩, [(.ret, ⟨[(2, .hole .i)], [], []⟩), (.exit 0, ⟨[], [], []⟩)], 20, []⟩)]
noncomputable def Ls_ref09_Check : List (Nat × List (Nat × LD)) := []
noncomputable def B_ref09_Check : Bodies := []
theorem run_ref09_Check (x : denL [(.arr 64 (.st .entry))]) : run [(134, c_ref09_Right)] L_ref09_Check Ls_ref09_Check B_ref09_Check Tryz.f101 [(.arr 64 (.st .entry))] [.i] x = g_ref09_Check x := by kernel_rfl
theorem ok_ref09_Check : ConOK Tryz.prog 101 c_ref09_Check := con_ok (ConsOK.cons ok_ref09_Right (ConsOK.nil)) L_ref09_Check Ls_ref09_Check (B := B_ref09_Check) (BodiesOK.nil) Tryz.func101 rfl fun x y hf h => (run_ref09_Check x).trans (eq_ref09_Check x y hf h)
noncomputable def L_ref09_Find : List (Nat × LD) := [(2, ⟨⟨[(1, .hole .i), (2, .ptr 0 []), (5, .hole .i)], [(0, (.arr 64 (.st .entry)), .hole (.arr 64 (.st .entry)))], []⟩, [(.ret, ⟨[(4, .hole .i)], [], []⟩), (.exit 0, ⟨[], [], []⟩)], 10, []⟩)]
noncomputable def Ls_ref09_Find : List (Nat × List (Nat × LD)) := []
noncomputable def B_ref09_Find : Bodies := []
theorem run_ref09_Find (x : denL [(.arr 64 (.st .entry)), .i]) : run [] L_ref09_Find Ls_ref09_Find B_ref09_Find Tryz.f59 [(.arr 64 (.st .entry)), .i] [.i] x = g_ref09_Find x := by kernel_rfl
theorem ok_ref09_Find : ConOK Tryz.prog 59 c_ref09_Find := con_ok (ConsOK.nil) L_ref09_Find Ls_ref09_Find (B := B_ref09_Find) (BodiesOK.nil) Tryz.func59 rfl fun x y hf h => (run_ref09_Find x).trans (eq_ref09_Find x y hf h)
noncomputable def L_ref11_Start : List (Nat × LD) := [(3, ⟨⟨[(0, .ptr 0 []), (1, .ptr 1 []), (2, .hole .i)], [(0, (.st .tree), .hole (.st .tree)), (1, (.st .tree), .hole (.st .tree))], []⟩, [(.exit 0, ⟨[(0, .ptr 0 []), (1, .ptr 1 [])], [(0, (.st .tree), .hole (.st .tree)), (1, (.st .tree), .hole (.st .tree))], []⟩)], 10, []⟩)]
noncomputable def Ls_ref11_Start : List (Nat × List (Nat × LD)) := []
noncomputable def B_ref11_Start : Bodies := []
theorem run_ref11_Start (x : denL []) : run [] L_ref11_Start Ls_ref11_Start B_ref11_Start Tryz.f49 [] [(.st .tree)] x = g_ref11_Start x := by kernel_rfl
theorem ok_ref11_Start : ConOK Tryz.prog 49 c_ref11_Start := con_ok (ConsOK.nil) L_ref11_Start Ls_ref11_Start (B := B_ref11_Start) (BodiesOK.nil) Tryz.func49 rfl fun x y hf h => (run_ref11_Start x).trans (eq_ref11_Start x y hf h)
noncomputable def L_ref11_Check : List (Nat × LD) := [(4, ⟨⟨[(1, .ptr 0 []), (3, .hole .i)], [(0, (.st .tree), .hole (.st .tree))], []⟩, [(.ret, ⟨[(2, .hole .i)], [], []⟩), (.exit 0, ⟨[(1, .ptr 0 [])], [(0, (.st .tree), .hole (.st .tree))], []⟩)], 10, []⟩), (14, ⟨⟨[(1, .ptr 0 []), (4, .hole .i), (5, .hole .i)], [(0, (.st .tree), .hole (.st .tree))], []⟩, [(.ret, ⟨[(2, .hole .i)], [], []⟩), (.exit 4, ⟨[(1, .ptr 0 []), (4, .hole .i)], [(0, (.st .tree), .hole (.st .tree))], []⟩)], 10, []⟩), (9, ⟨⟨[(1, .ptr 0 []), (4, .hole .i)], [(0, (.st .tree), .hole (.st .tree))], []⟩, [(.ret, ⟨[(2, .hole .i)], [], []⟩), (.exit 2, ⟨[], [], []⟩)], 20, []⟩)]
noncomputable def Ls_ref11_Check : List (Nat × List (Nat × LD)) := []
noncomputable def B_ref11_Check : Bodies := []
theorem run_ref11_Check (x : denL [(.st .tree)]) : run [(100, c_ref10_Check), (101, c_ref09_Check)] L_ref11_Check Ls_ref11_Check B_ref11_Check Tryz.f64 [(.st .tree)] [.i] x = g_ref11_Check x := by kernel_rfl
theorem ok_ref11_Check : ConOK Tryz.prog 64 c_ref11_Check := con_ok (ConsOK.cons ok_ref10_Check (ConsOK.cons ok_ref09_Check (ConsOK.nil))) L_ref11_Check Ls_ref11_Check (B := B_ref11_Check) (BodiesOK.nil) Tryz.func64 rfl fun x y hf h => (run_ref11_Check x).trans (eq_ref11_Check x y hf h)
noncomputable def L_ref11_Of : List (Nat × LD) := []
noncomputable def Ls_ref11_Of : List (Nat × List (Nat × LD)) := []
noncomputable def B_ref11_Of : Bodies := []
theorem run_ref11_Of (x : denL [(.st .tree), .i]) : run [(98, c_ref01_Node), (137, c_ref10_LeafAt)] L_ref11_Of Ls_ref11_Of B_ref11_Of Tryz.f107 [(.st .tree), .i] [(.st .key), .i] x = g_ref11_Of x := by kernel_rfl
theorem ok_ref11_Of : ConOK Tryz.prog 107 c_ref11_Of := con_ok (ConsOK.cons ok_ref01_Node (ConsOK.cons ok_ref10_LeafAt (ConsOK.nil))) L_ref11_Of Ls_ref11_Of (B := B_ref11_Of) (BodiesOK.nil) Tryz.func107 rfl fun x y hf h => (run_ref11_Of x).trans (eq_ref11_Of x y hf h)
noncomputable def L_ref11_Below : List (Nat × LD) := [(2, ⟨⟨[(1, .hole .i), (2, .ptr 0 []), (5, .hole .i)], [(0, (.arr 64 (.st .entry)), .hole (.arr 64 (.st .entry)))], []⟩, [(.ret, ⟨[(4, .hole .bool)], [], []⟩), (.exit 0, ⟨[], [], []⟩)], 10, []⟩)]
noncomputable def Ls_ref11_Below : List (Nat × List (Nat × LD)) := []
noncomputable def B_ref11_Below : Bodies := []
theorem run_ref11_Below (x : denL [(.arr 64 (.st .entry)), .i]) : run [(45, c_ref01_Leaf), (63, c_ref01_Below)] L_ref11_Below Ls_ref11_Below B_ref11_Below Tryz.f69 [(.arr 64 (.st .entry)), .i] [.bool] x = g_ref11_Below x := by kernel_rfl
theorem ok_ref11_Below : ConOK Tryz.prog 69 c_ref11_Below := con_ok (ConsOK.cons ok_ref01_Leaf (ConsOK.cons ok_ref01_Below (ConsOK.nil))) L_ref11_Below Ls_ref11_Below (B := B_ref11_Below) (BodiesOK.nil) Tryz.func69 rfl fun x y hf h => (run_ref11_Below x).trans (eq_ref11_Below x y hf h)
noncomputable def L_keytree_Check : List (Nat × LD) := [(7, ⟨⟨[(1, .ptr 0 []), (3, .mp 1), (38, .hole (.arr 21 (.st .key))), (39, .hole .i)], [(0, (.st .tree), .hole (.st .tree))], [(1, .i, .i)]⟩, [(.ret, ⟨[(2, .hole .i)], [], []⟩), (.exit 0, ⟨[(1, .ptr 0 []), (3, .mp 1)], [(0, (.st .tree), .hole (.st .tree))], [(1, .i, .i)]⟩)], 11, []⟩), (14, ⟨⟨[(1, .ptr 0 []), (3, .mp 1), (61, .hole (.arr 64 (.st .entry))), (62, .hole .i)], [(0, (.st .tree), .hole (.st .tree))], [(1, .i, .i)]⟩, [(.ret, ⟨[(2, .hole .i)], [], []⟩), (.exit 2, ⟨[], [], []⟩)], 11, []⟩)]
noncomputable def Ls_keytree_Check : List (Nat × List (Nat × LD)) := []
noncomputable def B_keytree_Check : Bodies := []
theorem run_keytree_Check (x : denL [(.st .tree)]) : run [(108, c_ratchet_Check), (109, c_roster_Check)] L_keytree_Check Ls_keytree_Check B_keytree_Check Tryz.f72 [(.st .tree)] [.i] x = g_keytree_Check x := by kernel_rfl
theorem ok_keytree_Check : ConOK Tryz.prog 72 c_keytree_Check := con_ok (ConsOK.cons ok_ratchet_Check (ConsOK.cons ok_roster_Check (ConsOK.nil))) L_keytree_Check Ls_keytree_Check (B := B_keytree_Check) (BodiesOK.nil) Tryz.func72 rfl fun x y hf h => (run_keytree_Check x).trans (eq_keytree_Check x y hf h)
noncomputable def L_ref08_Places : List (Nat × LD) := [(3, ⟨⟨[(0, .hole (.int .u64)), (2, .ptr 0 []), (3, .ptr 1 []), (4, .hole .i)], [(0, (.arr 64 .bool), .hole (.arr 64 .bool)), (1, (.arr 64 .bool), .hole (.arr 64 .bool))], []⟩, [(.exit 0, ⟨[(2, .ptr 0 []), (3, .ptr 1 [])], [(0, (.arr 64 .bool), .hole (.arr 64 .bool)), (1, (.arr 64 .bool), .hole (.arr 64 .bool))], []⟩)], 10, []⟩)]
noncomputable def Ls_ref08_Places : List (Nat × List (Nat × LD)) := []
noncomputable def B_ref08_Places : Bodies := []
theorem run_ref08_Places (x : denL [(.int .u64)]) : run [] L_ref08_Places Ls_ref08_Places B_ref08_Places Tryz.f148 [(.int .u64)] [(.arr 64 .bool)] x = g_ref08_Places x := by kernel_rfl
theorem ok_ref08_Places : ConOK Tryz.prog 148 c_ref08_Places := con_ok (ConsOK.nil) L_ref08_Places Ls_ref08_Places (B := B_ref08_Places) (BodiesOK.nil) Tryz.func148 rfl fun x y hf h => (run_ref08_Places x).trans (eq_ref08_Places x y hf h)
noncomputable def L_ref08_Word : List (Nat × LD) := [(3, ⟨⟨[(1, .ptr 0 []), (3, .hole (.int .u64)), (4, .hole .i)], [(0, (.arr 64 .bool), .hole (.arr 64 .bool))], []⟩, [(.exit 0, ⟨[(3, .hole (.int .u64))], [], []⟩)], 10, []⟩)]
noncomputable def Ls_ref08_Word : List (Nat × List (Nat × LD)) := []
noncomputable def B_ref08_Word : Bodies := []
theorem run_ref08_Word (x : denL [(.arr 64 .bool)]) : run [] L_ref08_Word Ls_ref08_Word B_ref08_Word Tryz.f136 [(.arr 64 .bool)] [(.int .u64)] x = g_ref08_Word x := by kernel_rfl
theorem ok_ref08_Word : ConOK Tryz.prog 136 c_ref08_Word := con_ok (ConsOK.nil) L_ref08_Word Ls_ref08_Word (B := B_ref08_Word) (BodiesOK.nil) Tryz.func136 rfl fun x y hf h => (run_ref08_Word x).trans (eq_ref08_Word x y hf h)
noncomputable def L_ref08_List : List (Nat × LD) := [(4, ⟨⟨[(3, .ptr 0 []), (4, .row .i), (5, .hole .i)], [(0, (.arr 64 .bool), .hole (.arr 64 .bool))], []⟩, [(.exit 0, ⟨[(4, .row .i)], [], []⟩)], 13, []⟩)]
noncomputable def Ls_ref08_List : List (Nat × List (Nat × LD)) := []
noncomputable def B_ref08_List : Bodies := []
theorem run_ref08_List (x : denL [(.int .u64)]) : run [(148, c_ref08_Places)] L_ref08_List Ls_ref08_List B_ref08_List Tryz.f135 [(.int .u64)] [(.list .i)] x = g_ref08_List x := by kernel_rfl
theorem ok_ref08_List : ConOK Tryz.prog 135 c_ref08_List := con_ok (ConsOK.cons ok_ref08_Places (ConsOK.nil)) L_ref08_List Ls_ref08_List (B := B_ref08_List) (BodiesOK.nil) Tryz.func135 rfl fun x y hf h => (run_ref08_List x).trans (eq_ref08_List x y hf h)
noncomputable def L_ref08_Count : List (Nat × LD) := []
noncomputable def Ls_ref08_Count : List (Nat × List (Nat × LD)) := []
noncomputable def B_ref08_Count : Bodies := []
theorem run_ref08_Count (x : denL [(.int .u64)]) : run [(135, c_ref08_List)] L_ref08_Count Ls_ref08_Count B_ref08_Count Tryz.f103 [(.int .u64)] [.i] x = g_ref08_Count x := by kernel_rfl
theorem ok_ref08_Count : ConOK Tryz.prog 103 c_ref08_Count := con_ok (ConsOK.cons ok_ref08_List (ConsOK.nil)) L_ref08_Count Ls_ref08_Count (B := B_ref08_Count) (BodiesOK.nil) Tryz.func103 rfl fun x y hf h => (run_ref08_Count x).trans (eq_ref08_Count x y hf h)
noncomputable def L_ref09_Taken : List (Nat × LD) := [(3, ⟨⟨[(1, .ptr 0 []), (3, .ptr 1 []), (4, .hole .i)], [(0, (.arr 64 (.st .entry)), .hole (.arr 64 (.st .entry))), (1, (.arr 64 .bool), .hole (.arr 64 .bool))], []⟩, [(.exit 0, ⟨[(3, .ptr 1 [])], [(1, (.arr 64 .bool), .hole (.arr 64 .bool))], []⟩)], 10, []⟩)]
noncomputable def Ls_ref09_Taken : List (Nat × List (Nat × LD)) := []
noncomputable def B_ref09_Taken : Bodies := []
theorem run_ref09_Taken (x : denL [(.arr 64 (.st .entry))]) : run [(136, c_ref08_Word)] L_ref09_Taken Ls_ref09_Taken B_ref09_Taken Tryz.f104 [(.arr 64 (.st .entry))] [(.int .u64)] x = g_ref09_Taken x := by kernel_rfl
theorem ok_ref09_Taken : ConOK Tryz.prog 104 c_ref09_Taken := con_ok (ConsOK.cons ok_ref08_Word (ConsOK.nil)) L_ref09_Taken Ls_ref09_Taken (B := B_ref09_Taken) (BodiesOK.nil) Tryz.func104 rfl fun x y hf h => (run_ref09_Taken x).trans (eq_ref09_Taken x y hf h)
noncomputable def L_ref09_person : List (Nat × LD) := []
noncomputable def Ls_ref09_person : List (Nat × List (Nat × LD)) := []
noncomputable def B_ref09_person : Bodies := []
theorem run_ref09_person (x : denL [(.arr 64 (.st .entry)), (.arr 256 .bool), .i, .bool]) : run [(59, c_ref09_Find)] L_ref09_person Ls_ref09_person B_ref09_person Tryz.f102 [(.arr 64 (.st .entry)), (.arr 256 .bool), .i, .bool] [.i] x = g_ref09_person x := by kernel_rfl
theorem ok_ref09_person : ConOK Tryz.prog 102 c_ref09_person := con_ok (ConsOK.cons ok_ref09_Find (ConsOK.nil)) L_ref09_person Ls_ref09_person (B := B_ref09_person) (BodiesOK.nil) Tryz.func102 rfl fun x y hf h => (run_ref09_person x).trans (eq_ref09_person x y hf h)
noncomputable def L_ref09_Fits : List (Nat × LD) := [(5, ⟨⟨[(2, .ptr 0 []), (3, .ptr 1 []), (5, .ptr 2 []), (16, .hole (.list .i)), (17, .hole .i), (18, .hole .i)], [(0, (.arr 64 (.st .entry)), .hole (.arr 64 (.st .entry))), (1, (.st .batch), .hole (.st .batch)), (2, (.arr 256 .bool), .hole (.arr 256 .bool))], []⟩, [(.ret, ⟨[(4, .hole .i)], [], []⟩), (.exit 0, ⟨[(2, .ptr 0 []), (3, .ptr 1 []), (5, .ptr 2 [])], [(0, (.arr 64 (.st .entry)), .hole (.arr 64 (.st .entry))), (1, (.st .batch), .hole (.st .batch)), (2, (.arr 256 .bool), .hole (.arr 256 .bool))], []⟩)], 10, []⟩), (13, ⟨⟨[(2, .ptr 0 []), (3, .ptr 1 []), (5, .ptr 2 []), (33, .hole (.list .i)), (34, .hole .i), (35, .hole .i)], [(0, (.arr 64 (.st .entry)), .hole (.arr 64 (.st .entry))), (1, (.st .batch), .hole (.st .batch)), (2, (.arr 256 .bool), .hole (.arr 256 .bool))], []⟩, [(.ret, ⟨[(4, .hole .i)], [], []⟩), (.exit 2, ⟨[(2, .ptr 0 []), (3, .ptr 1 [])], [(0, (.arr 64 (.st .entry)), .hole (.arr 64 (.st .entry))), (1, (.st .batch), .hole (.st .batch))], []⟩)], 10, []⟩)]
noncomputable def Ls_ref09_Fits : List (Nat × List (Nat × LD)) := []
noncomputable def B_ref09_Fits : Bodies := []
theorem run_ref09_Fits (x : denL [(.arr 64 (.st .entry)), (.st .batch)]) : run [(101, c_ref09_Check), (102, c_ref09_person), (104, c_ref09_Taken), (103, c_ref08_Count)] L_ref09_Fits Ls_ref09_Fits B_ref09_Fits Tryz.f65 [(.arr 64 (.st .entry)), (.st .batch)] [.i] x = g_ref09_Fits x := by kernel_rfl
theorem ok_ref09_Fits : ConOK Tryz.prog 65 c_ref09_Fits := con_ok (ConsOK.cons ok_ref09_Check (ConsOK.cons ok_ref09_person (ConsOK.cons ok_ref09_Taken (ConsOK.cons ok_ref08_Count (ConsOK.nil))))) L_ref09_Fits Ls_ref09_Fits (B := B_ref09_Fits) (BodiesOK.nil) Tryz.func65 rfl fun x y hf h => (run_ref09_Fits x).trans (eq_ref09_Fits x y hf h)
noncomputable def L_ref09_Move : List (Nat × LD) := [(10, ⟨⟨[(2, .hole .i), (3, .hole .i), (4, .ptr 0 []), (5, .ptr 1 []), (8, .ptr 2 []), (13, .hole .i), (14, .hole .i)], [(0, (.arr 64 (.st .entry)), .hole (.arr 64 (.st .entry))), (1, (.st .batch), .hole (.st .batch)), (2, (.arr 64 (.st .entry)), .hole (.arr 64 (.st .entry)))], []⟩, [(.ret, ⟨[(8, .ptr 2 []), (9, .nils), (10, .nils), (11, .hole .i)], [(2, (.arr 64 (.st .entry)), .hole (.arr 64 (.st .entry)))], []⟩), (.exit 0, ⟨[(2, .hole .i), (3, .hole .i), (4, .ptr 0 []), (5, .ptr 1 []), (8, .ptr 2 [])], [(0, (.arr 64 (.st .entry)), .hole (.arr 64 (.st .entry))), (1, (.st .batch), .hole (.st .batch)), (2, (.arr 64 (.st .entry)), .hole (.arr 64 (.st .entry)))], []⟩)], 10, []⟩), (16, ⟨⟨[(2, .hole .i), (3, .hole .i), (4, .ptr 0 []), (5, .ptr 1 []), (8, .ptr 2 []), (15, .row (.st .seat)), (16, .nils), (79, .hole (.list .i)), (80, .hole .i), (81, .hole .i)], [(0, (.arr 64 (.st .entry)), .hole (.arr 64 (.st .entry))), (1, (.st .batch), .hole (.st .batch)), (2, (.arr 64 (.st .entry)), .hole (.arr 64 (.st .entry)))], []⟩, [(.exit 2, ⟨[(2, .hole .i), (3, .hole .i), (4, .ptr 0 []), (5, .ptr 1 []), (8, .ptr 2 []), (15, .row (.st .seat)), (16, .nils)], [(0, (.arr 64 (.st .entry)), .hole (.arr 64 (.st .entry))), (1, (.st .batch), .hole (.st .batch)), (2, (.arr 64 (.st .entry)), .hole (.arr 64 (.st .entry)))], []⟩)], 13, []⟩), (26, ⟨⟨[(2, .hole .i), (3, .hole .i), (4, .ptr 0 []), (8, .ptr 2 []), (15, .row (.st .seat)), (16, .row (.st .seat)), (20, .hole .i), (21, .hole .i), (22, .hole .i), (99, .hole (.list .i)), (100, .hole .i), (101, .hole .i)], [(0, (.arr 64 (.st .entry)), .hole (.arr 64 (.st .entry))), (2, (.arr 64 (.st .entry)), .hole (.arr 64 (.st .entry)))], []⟩, [(.exit 6, ⟨[(2, .hole .i), (3, .hole .i), (4, .ptr 0 []), (8, .ptr 2 []), (15, .row (.st .seat)), (16, .row (.st .seat)), (20, .hole .i), (21, .hole .i), (22, .hole .i), (99, .hole (.list .i)), (100, .hole .i), (101, .hole .i)], [(0, (.arr 64 (.st .entry)), .hole (.arr 64 (.st .entry))), (2, (.arr 64 (.st .entry)), .hole (.arr 64 (.st .entry)))], []⟩)], 12, []⟩), (23, ⟨⟨[(2, .hole .i), (3, .hole .i), (4, .ptr 0 []), (8, .ptr 2 []), (15, .row (.st .seat)), (16, .row (.st .seat)), (99, .hole (.list .i)), (100, .hole .i), (101, .hole .i)], [(0, (.arr 64 (.st .entry)), .hole (.arr 64 (.st .entry))), (2, (.arr 64 (.st .entry)), .hole (.arr 64 (.st .entry)))], []⟩, [(.exit 4, ⟨[(4, .ptr 0 []), (8, .ptr 2 []), (15, .row (.st .seat)), (16, .row (.st .seat))], [(0, (.arr 64 (.st .entry)), .hole (.arr 64 (.st .entry))), (2, (.arr 64 (.st .entry)), .hole (.arr 64 (.st .entry)))], []⟩)], 24, []⟩)]
noncomputable def Ls_ref09_Move : List (Nat × List (Nat × LD)) := []
noncomputable def B_ref09_Move : Bodies := []
theorem run_ref09_Move (x : denL [(.arr 64 (.st .entry)), (.st .batch), .i, .i]) : run [(65, c_ref09_Fits), (59, c_ref09_Find)] L_ref09_Move Ls_ref09_Move B_ref09_Move Tryz.f67 [(.arr 64 (.st .entry)), (.st .batch), .i, .i] [(.arr 64 (.st .entry)), (.list (.st .seat)), (.list (.st .seat)), .i] x = g_ref09_Move x := by kernel_rfl
theorem ok_ref09_Move : ConOK Tryz.prog 67 c_ref09_Move := con_ok (ConsOK.cons ok_ref09_Fits (ConsOK.cons ok_ref09_Find (ConsOK.nil))) L_ref09_Move Ls_ref09_Move (B := B_ref09_Move) (BodiesOK.nil) Tryz.func67 rfl fun x y hf h => (run_ref09_Move x).trans (eq_ref09_Move x y hf h)
noncomputable def L_ref11_Replaced : List (Nat × LD) := [(7, ⟨⟨[(0, .hole (.list (.st .seat))), (3, .hole (.int .u32)), (4, .hole (.int .u32)), (5, .hole .i), (12, .hole (.list (.st .seat))), (13, .hole .i), (14, .hole .i)], [], []⟩, [(.exit 2, ⟨[(0, .hole (.list (.st .seat))), (3, .hole (.int .u32)), (4, .hole (.int .u32)), (5, .hole .i)], [], []⟩)], 11, []⟩), (4, ⟨⟨[(0, .hole (.list (.st .seat))), (3, .hole (.int .u32)), (4, .hole (.int .u32)), (5, .hole .i)], [], []⟩, [(.exit 0, ⟨[(3, .hole (.int .u32))], [], []⟩)], 22, []⟩)]
noncomputable def Ls_ref11_Replaced : List (Nat × List (Nat × LD)) := []
noncomputable def B_ref11_Replaced : Bodies := []
theorem run_ref11_Replaced (x : denL [(.list (.st .seat))]) : run [(45, c_ref01_Leaf), (63, c_ref01_Below)] L_ref11_Replaced Ls_ref11_Replaced B_ref11_Replaced Tryz.f46 [(.list (.st .seat))] [(.int .u32)] x = g_ref11_Replaced x := by kernel_rfl
theorem ok_ref11_Replaced : ConOK Tryz.prog 46 c_ref11_Replaced := con_ok (ConsOK.cons ok_ref01_Leaf (ConsOK.cons ok_ref01_Below (ConsOK.nil))) L_ref11_Replaced Ls_ref11_Replaced (B := B_ref11_Replaced) (BodiesOK.nil) Tryz.func46 rfl fun x y hf h => (run_ref11_Replaced x).trans (eq_ref11_Replaced x y hf h)
noncomputable def L_ref11_Next : List (Nat × LD) := [(10, ⟨⟨[(2, .ptr 0 []), (3, .ptr 1 []), (4, .ptr 2 []), (9, .row (.st .seat)), (34, .hole (.list .i)), (35, .hole .i), (36, .hole .i)], [(0, (.st .tree), .hole (.st .tree)), (1, (.st .batch), .hole (.st .batch)), (2, (.st .tree), .hole (.st .tree))], []⟩, [(.exit 0, ⟨[(2, .ptr 0 []), (3, .ptr 1 []), (4, .ptr 2 []), (9, .row (.st .seat))], [(0, (.st .tree), .hole (.st .tree)), (1, (.st .batch), .hole (.st .batch)), (2, (.st .tree), .hole (.st .tree))], []⟩)], 13, []⟩)]
noncomputable def Ls_ref11_Next : List (Nat × List (Nat × LD)) := []
noncomputable def B_ref11_Next : Bodies := []
theorem run_ref11_Next (x : denL [(.st .tree), (.st .batch)]) : run [(64, c_ref11_Check), (65, c_ref09_Fits), (59, c_ref09_Find), (46, c_ref11_Replaced), (66, c_ref10_Turn), (67, c_ref09_Move)] L_ref11_Next Ls_ref11_Next B_ref11_Next Tryz.f43 [(.st .tree), (.st .batch)] [(.st .tree), (.list (.st .seat)), (.list (.st .seat)), .i] x = g_ref11_Next x := by kernel_rfl
theorem ok_ref11_Next : ConOK Tryz.prog 43 c_ref11_Next := con_ok (ConsOK.cons ok_ref11_Check (ConsOK.cons ok_ref09_Fits (ConsOK.cons ok_ref09_Find (ConsOK.cons ok_ref11_Replaced (ConsOK.cons ok_ref10_Turn (ConsOK.cons ok_ref09_Move (ConsOK.nil))))))) L_ref11_Next Ls_ref11_Next (B := B_ref11_Next) (BodiesOK.nil) Tryz.func43 rfl fun x y hf h => (run_ref11_Next x).trans (eq_ref11_Next x y hf h)
noncomputable def L_ref12_item : List (Nat × LD) := []
noncomputable def Ls_ref12_item : List (Nat × List (Nat × LD)) := []
noncomputable def B_ref12_item : Bodies := []
theorem run_ref12_item (x : denL [(.st .tree), .i, .i]) : run [(107, c_ref11_Of)] L_ref12_item Ls_ref12_item B_ref12_item Tryz.f70 [(.st .tree), .i, .i] [(.st .item)] x = g_ref12_item x := by kernel_rfl
theorem ok_ref12_item : ConOK Tryz.prog 70 c_ref12_item := con_ok (ConsOK.cons ok_ref11_Of (ConsOK.nil)) L_ref12_item Ls_ref12_item (B := B_ref12_item) (BodiesOK.nil) Tryz.func70 rfl fun x y hf h => (run_ref12_item x).trans (eq_ref12_item x y hf h)
noncomputable def L_ref12_Items : List (Nat × LD) := [(7, ⟨⟨[(2, .hole (.list (.st .seat))), (3, .ptr 0 []), (7, .hole (.int .u32)), (8, .row (.st .item)), (9, .hole .i), (10, .hole .i)], [(0, (.st .tree), .hole (.st .tree))], []⟩, [(.exit 2, ⟨[(2, .hole (.list (.st .seat))), (3, .ptr 0 []), (7, .hole (.int .u32)), (8, .row (.st .item)), (9, .hole .i)], [(0, (.st .tree), .hole (.st .tree))], []⟩)], 13, []⟩), (4, ⟨⟨[(2, .hole (.list (.st .seat))), (3, .ptr 0 []), (7, .hole (.int .u32)), (8, .row (.st .item)), (9, .hole .i)], [(0, (.st .tree), .hole (.st .tree))], []⟩, [(.exit 0, ⟨[(2, .hole (.list (.st .seat))), (3, .ptr 0 []), (7, .hole (.int .u32)), (8, .row (.st .item))], [(0, (.st .tree), .hole (.st .tree))], []⟩)], 25, []⟩), (17, ⟨⟨[(3, .ptr 0 []), (7, .hole (.int .u32)), (8, .row (.st .item)), (13, .ptr 27 []), (14, .ptr 28 []), (16, .hole .i), (46, .hole (.list (.st .seat))), (47, .hole .i), (48, .hole .i)], [(0, (.st .tree), .hole (.st .tree)), (27, (.st .seat), .hole (.st .seat)), (28, (.arr 3 .i), .hole (.arr 3 .i))], []⟩, [(.exit 6, ⟨[(3, .ptr 0 []), (7, .hole (.int .u32)), (8, .row (.st .item)), (46, .hole (.list (.st .seat))), (47, .hole .i), (48, .hole .i)], [(0, (.st .tree), .hole (.st .tree))], []⟩)], 13, []⟩), (13, ⟨⟨[(3, .ptr 0 []), (7, .hole (.int .u32)), (8, .row (.st .item)), (46, .hole (.list (.st .seat))), (47, .hole .i), (48, .hole .i)], [(0, (.st .tree), .hole (.st .tree))], []⟩, [(.exit 4, ⟨[(8, .row (.st .item))], [], []⟩)], 27, []⟩)]
noncomputable def Ls_ref12_Items : List (Nat × List (Nat × LD)) := []
noncomputable def B_ref12_Items : Bodies := []
theorem run_ref12_Items (x : denL [(.st .tree), (.list (.st .seat)), (.list (.st .seat))]) : run [(46, c_ref11_Replaced), (24, c_ref01_In), (68, c_ref01_Child), (69, c_ref11_Below), (70, c_ref12_item), (71, c_ref01_Path), (45, c_ref01_Leaf)] L_ref12_Items Ls_ref12_Items B_ref12_Items Tryz.f44 [(.st .tree), (.list (.st .seat)), (.list (.st .seat))] [(.list (.st .item))] x = g_ref12_Items x := by kernel_rfl
theorem ok_ref12_Items : ConOK Tryz.prog 44 c_ref12_Items := con_ok (ConsOK.cons ok_ref11_Replaced (ConsOK.cons ok_ref01_In (ConsOK.cons ok_ref01_Child (ConsOK.cons ok_ref11_Below (ConsOK.cons ok_ref12_item (ConsOK.cons ok_ref01_Path (ConsOK.cons ok_ref01_Leaf (ConsOK.nil)))))))) L_ref12_Items Ls_ref12_Items (B := B_ref12_Items) (BodiesOK.nil) Tryz.func44 rfl fun x y hf h => (run_ref12_Items x).trans (eq_ref12_Items x y hf h)
noncomputable def L_ref12_Next : List (Nat × LD) := []
noncomputable def Ls_ref12_Next : List (Nat × List (Nat × LD)) := []
noncomputable def B_ref12_Next : Bodies := []
theorem run_ref12_Next (x : denL [(.st .tree), (.st .batch)]) : run [(43, c_ref11_Next), (44, c_ref12_Items)] L_ref12_Next Ls_ref12_Next B_ref12_Next Tryz.f23 [(.st .tree), (.st .batch)] [(.st .tree), (.st .rekey), .i] x = g_ref12_Next x := by kernel_rfl
theorem ok_ref12_Next : ConOK Tryz.prog 23 c_ref12_Next := con_ok (ConsOK.cons ok_ref11_Next (ConsOK.cons ok_ref12_Items (ConsOK.nil))) L_ref12_Next Ls_ref12_Next (B := B_ref12_Next) (BodiesOK.nil) Tryz.func23 rfl fun x y hf h => (run_ref12_Next x).trans (eq_ref12_Next x y hf h)
noncomputable def L_plan_Replaced : List (Nat × LD) := [(3, ⟨⟨[(3, .hole (.int .u64)), (6, .hole (.list (.st .seat))), (7, .hole .i), (8, .hole .i)], [], []⟩, [(.exit 0, ⟨[(3, .hole (.int .u64))], [], []⟩)], 11, []⟩)]
noncomputable def Ls_plan_Replaced : List (Nat × List (Nat × LD)) := []
noncomputable def B_plan_Replaced : Bodies := []
theorem run_plan_Replaced (x : denL [(.list (.st .seat))]) : run [(41, c_shape_Leaf), (62, c_shape_Mask), (112, c_shape_Above)] L_plan_Replaced Ls_plan_Replaced B_plan_Replaced Tryz.f74 [(.list (.st .seat))] [(.int .u32)] x = g_plan_Replaced x := by kernel_rfl
theorem ok_plan_Replaced : ConOK Tryz.prog 74 c_plan_Replaced := con_ok (ConsOK.cons ok_shape_Leaf (ConsOK.cons ok_shape_Mask (ConsOK.cons ok_shape_Above (ConsOK.nil)))) L_plan_Replaced Ls_plan_Replaced (B := B_plan_Replaced) (BodiesOK.nil) Tryz.func74 rfl fun x y hf h => (run_plan_Replaced x).trans (eq_plan_Replaced x y hf h)
noncomputable def L_bits_OnesCount64 : List (Nat × LD) := []
noncomputable def Ls_bits_OnesCount64 : List (Nat × List (Nat × LD)) := []
noncomputable def B_bits_OnesCount64 : Bodies := []
theorem run_bits_OnesCount64 (x : denL [(.int .u64)]) : run [] L_bits_OnesCount64 Ls_bits_OnesCount64 B_bits_OnesCount64 Tryz.f139 [(.int .u64)] [.i] x = g_bits_OnesCount64 x := by kernel_rfl
theorem ok_bits_OnesCount64 : ConOK Tryz.prog 139 c_bits_OnesCount64 := con_ok (ConsOK.nil) L_bits_OnesCount64 Ls_bits_OnesCount64 (B := B_bits_OnesCount64) (BodiesOK.nil) Tryz.func139 rfl fun x y hf h => (run_bits_OnesCount64 x).trans (eq_bits_OnesCount64 x y hf h)
noncomputable def L_seats_Count : List (Nat × LD) := []
noncomputable def Ls_seats_Count : List (Nat × List (Nat × LD)) := []
noncomputable def B_seats_Count : Bodies := []
theorem run_seats_Count (x : denL [(.int .u64)]) : run [(139, c_bits_OnesCount64)] L_seats_Count Ls_seats_Count B_seats_Count Tryz.f111 [(.int .u64)] [.i] x = g_seats_Count x := by kernel_rfl
theorem ok_seats_Count : ConOK Tryz.prog 111 c_seats_Count := con_ok (ConsOK.cons ok_bits_OnesCount64 (ConsOK.nil)) L_seats_Count Ls_seats_Count (B := B_seats_Count) (BodiesOK.nil) Tryz.func111 rfl fun x y hf h => (run_seats_Count x).trans (eq_seats_Count x y hf h)
noncomputable def L_seats_bit : List (Nat × LD) := []
noncomputable def Ls_seats_bit : List (Nat × List (Nat × LD)) := []
noncomputable def B_seats_bit : Bodies := []
theorem run_seats_bit (x : denL [.i]) : run [] L_seats_bit Ls_seats_bit B_seats_bit Tryz.f143 [.i] [(.int .u64)] x = g_seats_bit x := by kernel_rfl
theorem ok_seats_bit : ConOK Tryz.prog 143 c_seats_bit := con_ok (ConsOK.nil) L_seats_bit Ls_seats_bit (B := B_seats_bit) (BodiesOK.nil) Tryz.func143 rfl fun x y hf h => (run_seats_bit x).trans (eq_seats_bit x y hf h)
noncomputable def L_plan_nodeKey : List (Nat × LD) := []
noncomputable def Ls_plan_nodeKey : List (Nat × List (Nat × LD)) := []
noncomputable def B_plan_nodeKey : Bodies := []
theorem run_plan_nodeKey (x : denL [(.st .tree), .i]) : run [(118, c_shape_Slot), (119, c_ratchet_LeafAt)] L_plan_nodeKey Ls_plan_nodeKey B_plan_nodeKey Tryz.f81 [(.st .tree), .i] [(.st .key)] x = g_plan_nodeKey x := by kernel_rfl
theorem ok_plan_nodeKey : ConOK Tryz.prog 81 c_plan_nodeKey := con_ok (ConsOK.cons ok_shape_Slot (ConsOK.cons ok_ratchet_LeafAt (ConsOK.nil))) L_plan_nodeKey Ls_plan_nodeKey (B := B_plan_nodeKey) (BodiesOK.nil) Tryz.func81 rfl fun x y hf h => (run_plan_nodeKey x).trans (eq_plan_nodeKey x y hf h)
noncomputable def L_plan_leavers : List (Nat × LD) := [(3, ⟨⟨[(2, .ptr 0 []), (5, .row (.st .seat)), (8, .hole (.list .i)), (9, .hole .i), (10, .hole .i)], [(0, (.arr 64 (.st .entry)), .hole (.arr 64 (.st .entry)))], []⟩, [(.exit 0, ⟨[(5, .row (.st .seat))], [], []⟩)], 13, []⟩)]
noncomputable def Ls_plan_leavers : List (Nat × List (Nat × LD)) := []
noncomputable def B_plan_leavers : Bodies := []
theorem run_plan_leavers (x : denL [(.arr 64 (.st .entry)), (.list .i)]) : run [(36, c_roster_Find)] L_plan_leavers Ls_plan_leavers B_plan_leavers Tryz.f75 [(.arr 64 (.st .entry)), (.list .i)] [(.list (.st .seat))] x = g_plan_leavers x := by kernel_rfl
theorem ok_plan_leavers : ConOK Tryz.prog 75 c_plan_leavers := con_ok (ConsOK.cons ok_roster_Find (ConsOK.nil)) L_plan_leavers Ls_plan_leavers (B := B_plan_leavers) (BodiesOK.nil) Tryz.func75 rfl fun x y hf h => (run_plan_leavers x).trans (eq_plan_leavers x y hf h)
noncomputable def L_roster_names : List (Nat × LD) := []
noncomputable def Ls_roster_names : List (Nat × List (Nat × LD)) := [(57, [(2, ⟨⟨[(0, .asl 0 []), (1, .fn 141 [1, 2]), (7, .hole .i), (8, .hole .i)], [(0, (.arr 64 (.st .entry)), .hole (.arr 64 (.st .entry))), (1, .i, .hole .i), (2, .i, .hole .i)], []⟩, [(.ret, ⟨[(4, .hole .i)], [(0, (.arr 64 (.st .entry)), .hole (.arr 64 (.st .entry))), (1, .i, .hole .i), (2, .i, .hole .i)], []⟩), (.exit 0, ⟨[], [(0, (.arr 64 (.st .entry)), .hole (.arr 64 (.st .entry))), (1, .i, .hole .i), (2, .i, .hole .i)], []⟩)], 10, []⟩)])]
noncomputable def B_roster_names : Bodies := [bodyLine 141 Tryz.f141, bodyLine 140 Tryz.f140, bodyLine 57 Tryz.f57]
theorem run_roster_names (x : denL [(.arr 64 (.st .entry)), .i, .i]) : run [] L_roster_names Ls_roster_names B_roster_names Tryz.f115 [(.arr 64 (.st .entry)), .i, .i] [.bool] x = g_roster_names x := by kernel_rfl
theorem ok_roster_names : ConOK Tryz.prog 115 c_roster_names := con_ok (ConsOK.nil) L_roster_names Ls_roster_names (B := B_roster_names) (BodiesOK.cons Tryz.func141 rfl (BodiesOK.cons Tryz.func140 rfl (BodiesOK.cons Tryz.func57 rfl (BodiesOK.nil)))) Tryz.func115 rfl fun x y hf h => (run_roster_names x).trans (eq_roster_names x y hf h)
noncomputable def L_roster_Fits : List (Nat × LD) := []
noncomputable def Ls_roster_Fits : List (Nat × List (Nat × LD)) := [(110, [(2, ⟨⟨[(1, .hole .bool), (2, .hole .i), (3, .ptr 3 []), (4, .ptr 0 []), (11, .hole (.list .i)), (12, .hole .i), (13, .hole .i)], [(0, (.arr 64 (.st .entry)), .hole (.arr 64 (.st .entry))), (1, (.st .batch), .hole (.st .batch)), (3, .bool, .mp 2)], [(2, .i, .i)]⟩, [(.ret, ⟨[(8, .hole .i)], [(0, (.arr 64 (.st .entry)), .hole (.arr 64 (.st .entry))), (1, (.st .batch), .hole (.st .batch)), (3, .bool, .mp 2)], [(2, .i, .i)]⟩), (.exit 0, ⟨[], [(0, (.arr 64 (.st .entry)), .hole (.arr 64 (.st .entry))), (1, (.st .batch), .hole (.st .batch)), (3, .bool, .mp 2)], [(2, .i, .i)]⟩)], 10, []⟩)])]
noncomputable def B_roster_Fits : Bodies := [bodyLine 110 Tryz.f110]
theorem run_roster_Fits (x : denL [(.arr 64 (.st .entry)), (.st .batch)]) : run [(109, c_roster_Check), (36, c_roster_Find), (82, c_roster_Taken), (111, c_seats_Count)] L_roster_Fits Ls_roster_Fits B_roster_Fits Tryz.f73 [(.arr 64 (.st .entry)), (.st .batch)] [.i] x = g_roster_Fits x := by kernel_rfl
theorem ok_roster_Fits : ConOK Tryz.prog 73 c_roster_Fits := con_ok (ConsOK.cons ok_roster_Check (ConsOK.cons ok_roster_Find (ConsOK.cons ok_roster_Taken (ConsOK.cons ok_seats_Count (ConsOK.nil))))) L_roster_Fits Ls_roster_Fits (B := B_roster_Fits) (BodiesOK.cons Tryz.func110 rfl (BodiesOK.nil)) Tryz.func73 rfl fun x y hf h => (run_roster_Fits x).trans (eq_roster_Fits x y hf h)
noncomputable def L_keytree_Start : List (Nat × LD) := [(3, ⟨⟨[(0, .ptr 0 []), (1, .ptr 1 []), (4, .hole .i)], [(0, (.st .tree), .hole (.st .tree)), (1, (.st .tree), .hole (.st .tree))], []⟩, [(.exit 0, ⟨[(0, .ptr 0 []), (1, .ptr 1 [])], [(0, (.st .tree), .hole (.st .tree)), (1, (.st .tree), .hole (.st .tree))], []⟩)], 10, []⟩)]
noncomputable def Ls_keytree_Start : List (Nat × List (Nat × LD)) := []
noncomputable def B_keytree_Start : Bodies := []
theorem run_keytree_Start (x : denL []) : run [] L_keytree_Start Ls_keytree_Start B_keytree_Start Tryz.f26 [] [(.st .tree)] x = g_keytree_Start x := by kernel_rfl
theorem ok_keytree_Start : ConOK Tryz.prog 26 c_keytree_Start := con_ok (ConsOK.nil) L_keytree_Start Ls_keytree_Start (B := B_keytree_Start) (BodiesOK.nil) Tryz.func26 rfl fun x y hf h => (run_keytree_Start x).trans (eq_keytree_Start x y hf h)
noncomputable def L_shape_Below : List (Nat × LD) := []
noncomputable def Ls_shape_Below : List (Nat × List (Nat × LD)) := []
noncomputable def B_shape_Below : Bodies := []
theorem run_shape_Below (x : denL [.i, .i]) : run [(61, c_shape_Level), (62, c_shape_Mask)] L_shape_Below Ls_shape_Below B_shape_Below Tryz.f40 [.i, .i] [.bool] x = g_shape_Below x := by kernel_rfl
theorem ok_shape_Below : ConOK Tryz.prog 40 c_shape_Below := con_ok (ConsOK.cons ok_shape_Level (ConsOK.cons ok_shape_Mask (ConsOK.nil))) L_shape_Below Ls_shape_Below (B := B_shape_Below) (BodiesOK.nil) Tryz.func40 rfl fun x y hf h => (run_shape_Below x).trans (eq_shape_Below x y hf h)
noncomputable def L_ref12_Replaced : List (Nat × LD) := [(3, ⟨⟨[(3, .row (.st .seat)), (6, .hole (.list (.st .seat))), (7, .hole .i), (8, .hole .i)], [], []⟩, [(.exit 0, ⟨[(3, .row (.st .seat))], [], []⟩)], 14, []⟩)]
noncomputable def Ls_ref12_Replaced : List (Nat × List (Nat × LD)) := []
noncomputable def B_ref12_Replaced : Bodies := []
theorem run_ref12_Replaced (x : denL [(.list (.st .seat))]) : run [(45, c_ref01_Leaf), (46, c_ref11_Replaced)] L_ref12_Replaced Ls_ref12_Replaced B_ref12_Replaced Tryz.f25 [(.list (.st .seat))] [(.int .u32)] x = g_ref12_Replaced x := by kernel_rfl
theorem ok_ref12_Replaced : ConOK Tryz.prog 25 c_ref12_Replaced := con_ok (ConsOK.cons ok_ref01_Leaf (ConsOK.cons ok_ref11_Replaced (ConsOK.nil))) L_ref12_Replaced Ls_ref12_Replaced (B := B_ref12_Replaced) (BodiesOK.nil) Tryz.func25 rfl fun x y hf h => (run_ref12_Replaced x).trans (eq_ref12_Replaced x y hf h)
end Go.Proofs.YtghlolinkmlkeaaGreatDoor
end

section
namespace Go.Co
open Go Go.RowKit

/-- It speaks of cells alone. -/
structure Cl {α : Type} (n0 : Nat) (I : List α → World → Prop) : Prop where
  alloc : ∀ s A o, o.isCells = false → I s A → I s (A.alloc o)
  putObj : ∀ s A l o o', n0 ≤ l → I s A → A.heap[l]? = some o → o.isCells = false → o'.isCells = false → I s (A.putObj l o')
/-- What a round must achieve. -/
def roundPost {α : Type} (Be : Nat) (I : List α → World → Prop) (Ix : Code → List α → World → Prop) (xs : List α) (W : World) : Exit → Act → World → Prop
  | .normal, _, W' => KeepsOthers W W' ∧ W'.heap[Be]? = W.heap[Be]? ∧ I xs W'
  | .ret, _, W' => KeepsOthers W W' ∧ Ix .ret xs W'
  | .exit id, _, W' => KeepsOthers W W' ∧ Ix (.exit id) xs W'
  | _, _, _ => False
theorem rangeFunc_box {F : Fence} {n : Nat} {P : Program} {α : Type} {g : Operand} {ps : Array Tmp} {assign body : Code} {Q : Exit → Act → World → Prop} {a : Act} {w : World}
    (hro : F.round = none) (h1 : 1 ≤ n) {gf : Nat} {lb : Array Value} (hg : a.eval g = .func (.func gf) #[] lb) (hFg : F.fn gf) (eg : ∀ args w, (callFunc gf args).run P w = .ok (.enter gf args) w)
    {encs : α → Array Value} {Be : Nat} {tB : TypeId} {xB : Value} {G : World → Prop} {xs : List α} (hps : ∀ x, (encs x).size = ps.size)
    (hseq : ∀ (l : Nat) (J Jx : List α → World → Prop) (W : World), (∀ pre A x v, J pre A → Boxed A Be tB x → J pre (A.setCell ⟨Be, 0, none⟩ v)) → (∀ pre A, J pre A → G A) →
      (∀ pre x W, J pre W → pre ++ [x] <+: xs → YieldAt F (n - 1 - 1) P l (encs x) W fun e W' => (e = .returned (.bool true) ∧ J (pre ++ [x]) W' ∧ W'.heap[Be]? = W.heap[Be]?) ∨ (e = .returned (.bool false) ∧ Jx (pre ++ [x]) W')) →
      Boxed W Be tB xB → J [] W → CallsIn F (n - 1) P gf (#[.func (.yield l) #[] #[]] ++ lb) W fun e W' => (∃ v, e = .returned v) ∧ (J xs W' ∨ ∃ pre, pre <+: xs ∧ Jx pre W'))
    (hB : Boxed w Be tB xB) (I : List α → World → Prop) (Ix : Code → List α → World → Prop) (hI : Cl w.heap.size I) (hIx : ∀ c, Cl w.heap.size (Ix c)) (hset : ∀ pre A x v, I pre A → Boxed A Be tB x → I pre (A.setCell ⟨Be, 0, none⟩ v)) (hG : ∀ pre A, I pre A → G A) (h0 : I [] w) (a₁ : α → Act)
    (hassign : ∀ (l : Nat) (x : α) (W : World) (K : Act → World → Prop), K (a₁ x) W →
      assign.wpIn (F.inRound l) (n - 1 - 1) P (Exit.then K (fun _ _ _ => False)) { tmps := (ps.zip (encs x)).foldl (fun t (p, v) => t.setIfInBounds p v) a.tmps, defers := [] } W)
    (hbody : ∀ (l : Nat) (pre : List α) (x : α) (W : World), I pre W → pre ++ [x] <+: xs → body.wpIn (F.inRound l) (n - 1 - 1) P (roundPost Be I Ix (pre ++ [x]) W) (a₁ x) W)
    (hdone : ∀ (D : Nat) (W : World), I xs W → W.heap[D]? = some (.deferred (some [])) → w.heap.size ≤ D → Q .normal { a with defers := { target := .collected D, args := #[] } :: a.defers } W)
    (hstop : ∀ (D : Nat) (c : Code) (pre : List α) (W : World), pre <+: xs → Ix c pre W → W.heap[D]? = some (.deferred (some [])) → w.heap.size ≤ D → c.wpIn F n P Q { a with defers := { target := .collected D, args := #[] } :: a.defers } W) :
    (Code.rangeFunc g ps assign body).wpIn F n P Q a w := by
  refine wpIn_rangeFunc ?_
  intro fn hfn
  rw [hro]
  obtain ⟨rec, hrec⟩ : ∃ rec : LoopState → Option Code → Loop, rec = fun st pe => { state := st, pending := pe, fn, tmps := a.tmps, params := ps, assign, body, defers := w.heap.size } := ⟨_, rfl⟩
  obtain ⟨W1, hW1⟩ : ∃ W1, (w.alloc (.deferred (some []))).alloc (.loop (rec .ready none)) = W1 := ⟨_, rfl⟩
  have hL1 : W1.heap[w.heap.size + 1]? = some (.loop (rec .ready none)) := by
    rw [← hW1]; have := World.alloc_heap_new (w.alloc (.deferred (some []))) (.loop (rec .ready none)); rwa [World.size_alloc] at this
  have hK1 : W1.heap[w.heap.size]? = some (.deferred (some [])) := by
    rw [← hW1]; exact (Below.heap_alloc _ _ _ (by simp)).trans (World.alloc_heap_new w _)
  have hI1 : I [] W1 := by rw [← hW1]; exact hI.alloc _ _ _ rfl (hI.alloc _ _ _ rfl h0)
  have hB1 : Boxed W1 Be tB xB := by rw [← hW1]; exact (hB.alloc _).alloc _
  have hBlt : Be < w.heap.size := hB.lt
  refine ⟨w.heap.size + 1, [{ target := .collected w.heap.size, args := #[] }], W1, { target := .fn (.func gf) lb, args := #[.func (.yield (w.heap.size + 1)) #[] #[]] }, W1, gf,
    #[.func (.yield (w.heap.size + 1)) #[] #[]] ++ lb, W1, ?_, ?_, ?_, ?_, fun _ => h1, ?_⟩
  · rw [← hW1, hrec]; exact run_enterLoop_outer _ _ _ _ _
  · simp only [resolve, hg]
    simp [go_sem]
  · intro f' hf'; simp [Target.leads] at hf'; subst hf'; exact hFg
  · simp [invoke, go_sem, eg]
  · refine (hseq (w.heap.size + 1)
      (fun pre W => I pre W ∧ W.heap[w.heap.size + 1]? = some (.loop (rec .ready none)) ∧ W.heap[w.heap.size]? = some (.deferred (some [])))
      (fun pre W => ∃ c, Ix c pre W ∧ W.heap[w.heap.size + 1]? = some (.loop (rec .done (some c))) ∧ W.heap[w.heap.size]? = some (.deferred (some [])))
      W1 ?_ (fun pre A h => hG pre A h.1) ?_ hB1 ⟨hI1, hL1, hK1⟩).mono ?_
    · rintro pre A x v ⟨hi, hl, hk⟩ hb
      exact ⟨hset _ _ _ _ hi hb, (KeepsOthers.setCell A _ v).same _ _ hl rfl, (KeepsOthers.setCell A _ v).same _ _ hk rfl⟩
    · -- one round
      rintro pre x W ⟨hi, hl, hk⟩ hpre
      have hlt : w.heap.size + 1 < W.heap.size := (Array.getElem?_eq_some_iff.1 hl).1
      have hy := run_yield (P := P) (args := encs x) hl (by rw [hrec]; exact hps x)
      rw [hrec] at hy
      refine ⟨fn, _, assign, body, hy, roundIn_of_wpIn hfn (hassign _ x W _ ⟨_, run_beginRound hl (by rw [hrec]), ?_⟩)⟩
      have hl2 : (W.putObj (w.heap.size + 1) (.loop { rec .ready none with state := .busy })).heap[w.heap.size + 1]? = some (.loop { rec .ready none with state := .busy }) := World.putObj_heap_same hlt
      have hk2 : (W.putObj (w.heap.size + 1) (.loop { rec .ready none with state := .busy })).heap[w.heap.size]? = some (.deferred (some [])) := (World.putObj_heap_other (by omega)).trans hk
      have hb2 : (W.putObj (w.heap.size + 1) (.loop { rec .ready none with state := .busy })).heap[Be]? = W.heap[Be]? := World.putObj_heap_other (by omega)
      refine wpIn_mono (hbody _ pre x _ (hI.putObj _ _ _ _ _ (by omega) hi hl rfl rfl) hpre) ?_
      have fin : ∀ (jump : Option Code) (W3 : World), KeepsOthers (W.putObj (w.heap.size + 1) (.loop { rec .ready none with state := .busy })) W3 →
          (Instr.endRound (w.heap.size + 1) jump).run P W3 = .ok (.bool jump.isNone) (W3.putObj (w.heap.size + 1) (.loop (rec (if jump.isNone then .ready else .done) jump))) ∧
          W3.heap[w.heap.size + 1]? = some (.loop { rec .ready none with state := .busy }) ∧
          (W3.putObj (w.heap.size + 1) (.loop (rec (if jump.isNone then .ready else .done) jump))).heap[w.heap.size + 1]? = some (.loop (rec (if jump.isNone then .ready else .done) jump)) ∧
          (W3.putObj (w.heap.size + 1) (.loop (rec (if jump.isNone then .ready else .done) jump))).heap[w.heap.size]? = some (.deferred (some [])) := fun jump W3 hk3 => by
        have hl3 := hk3.same _ _ hl2 rfl
        have := run_endRound (P := P) jump hl3
        rw [hrec] at this ⊢
        exact ⟨this, by rw [hrec] at hl3; exact hl3, World.putObj_heap_same (Array.getElem?_eq_some_iff.1 hl3).1, (World.putObj_heap_other (by omega)).trans (hk3.same _ _ hk2 rfl)⟩
      rintro e a3 W3 hp
      cases e with
      | normal =>
        obtain ⟨hk3, hb3, hi3⟩ := hp
        obtain ⟨hr, hl3, hl4, hk4⟩ := fin none W3 hk3
        exact ⟨_, _, hr, .inl ⟨rfl, ⟨hI.putObj _ _ _ _ _ (by omega) hi3 hl3 rfl rfl, hl4, hk4⟩, ((World.putObj_heap_other (by omega)).trans hb3).trans hb2⟩⟩
      | ret =>
        obtain ⟨hk3, hi3⟩ := hp
        obtain ⟨hr, hl3, hl4, hk4⟩ := fin (some .ret) W3 hk3
        exact ⟨_, _, hr, .inr ⟨rfl, .ret, (hIx _).putObj _ _ _ _ _ (by omega) hi3 hl3 rfl rfl, hl4, hk4⟩⟩
      | exit id =>
        obtain ⟨hk3, hi3⟩ := hp
        obtain ⟨hr, hl3, hl4, hk4⟩ := fin (some (.exit id)) W3 hk3
        exact ⟨_, _, hr, .inr ⟨rfl, .exit id, (hIx _).putObj _ _ _ _ _ (by omega) hi3 hl3 rfl rfl, hl4, hk4⟩⟩
      | goto t => exact hp.elim
      | panic ch => exact hp.elim
      | outgrown => exact hp.elim
    · -- behind the iterator
      rintro e W2 ⟨⟨v, rfl⟩, (⟨hi, hl, hk⟩ | ⟨pre, hpre, c, hi, hl, hk⟩)⟩
      · exact ⟨none, _, by have := run_endLoop (P := P) hl (by rw [hrec]; simp); rw [hrec] at this; exact this, hdone _ _ (hI.putObj _ _ _ _ _ (by omega) hi hl rfl rfl) ((World.putObj_heap_other (by omega)).trans hk) (Nat.le_refl _)⟩
      · exact ⟨some c, _, by have := run_endLoop (P := P) hl (by rw [hrec]; simp); rw [hrec] at this; exact this, hstop _ c pre _ hpre ((hIx c).putObj _ _ _ _ _ (by omega) hi hl rfl rfl) ((World.putObj_heap_other (by omega)).trans hk) (Nat.le_refl _)⟩

/-! ### Nothing is frozen by an append -/
theorem fz_alloc (w : World) (o : Obj) (ho : ∀ cs e f, o = .cells cs e f → f = (0, 0)) (a : Addr) : (w.alloc o).frozen? a = w.frozen? a := by
  by_cases h : a.block = w.heap.size
  · have h1 : (w.alloc o).heap[a.block]? = some o := by rw [h]; exact World.alloc_heap_new w o
    have h2 : w.heap[a.block]? = none := by rw [h]; simp
    unfold World.frozen?
    rw [h1, h2]
    cases o with
    | cells cs e f => have := ho cs e f rfl; subst this; simp
    | _ => rfl
  · by_cases hlt : a.block < w.heap.size
    · exact frozen_same (Below.heap_alloc _ _ _ hlt)
    · have h1 : (w.alloc o).heap[a.block]? = none := Array.getElem?_eq_none (by have := World.size_alloc w o; omega)
      have h2 : w.heap[a.block]? = none := Array.getElem?_eq_none (by omega)
      exact frozen_same (h1.trans h2.symm)
theorem fz_append {P : Program} {w : World} {base : Nat} {t ty e : TypeId} {i : TypeInfo} {z : Value} (ht : P.underlying t = some (.slice e)) (hi : P.info? e = some i) (hz : i.zero = some z)
    {v : Value} {n : Nat} {xs : List Value} (hown : w.ownsRow base e i.size v n xs) {a : Addr} {m c : Nat} {news : List Value} (hl : news.length = m * i.size) (hnews : ∀ j u, news[j]? = some u → w.cell? (a.add j) = some u) (h1 : ∀ u ∈ news, u.oneCell' = true)
    (hm : 0 < m) (h63 : n + m ≤ maxLen) (hbytes : (n + m) * i.bytes ≤ 140737488355328) {v' : Value} {w' : World} (hrun : (Builtin.append_ #[t, t] ty #[v, .slice (some a) m c]).run P w = .ok v' w') (b : Addr) : w'.frozen? b = w.frozen? b := by
  have hsmall : n + m ≤ 9223372036854775807 := by simp only [maxLen] at h63; omega
  have new : ∀ cs : Array Value, (w.drew.alloc (.cells cs e)).frozen? b = w.frozen? b := fun cs => (fz_alloc w.drew _ (fun _ _ _ h => by cases h; rfl) b).trans rfl
  rcases hown.2 with ⟨rfl, rfl⟩ | ⟨g, cap, cur, rfl, _, hg, _, _, hcs, _⟩
  · rw [run_append_nil (P := P) w t ty e i z ht hi hz a m c news hl hnews hm (by omega) (by simp only [Nat.zero_add] at hbytes; omega)] at hrun
    cases hrun; exact new _
  · by_cases hroom : n + m ≤ cap
    · have hfit : n * i.size + news.length ≤ cur.size := by rw [hl, hcs, ← Nat.add_mul]; exact Nat.mul_le_mul_right _ hroom
      rw [run_append_room (P := P) w t ty e i ht hi g n cap cur hg a m c news hl hnews h1 hroom hfit] at hrun
      cases hrun
      by_cases hb : b.block = g
      · have := setRow_heap w g cur (cur.toList.take (n * i.size) ++ news ++ cur.toList.drop (n * i.size + news.length)).toArray e (0, 0) hg
        unfold World.frozen?
        rw [hb, this, hg]
      · exact frozen_same (setRow_other w g b.block _ hb)
    · have holds : ∀ j u, xs[j]? = some u → w.cell? ((⟨g, 0, none⟩ : Addr).add j) = some u := hown.cells (g := g) rfl
      rw [run_append_grow (P := P) w t ty e i z ht hi hz ⟨g, 0, none⟩ n cap xs hown.1 holds a m c news hl hnews (by omega) (by omega) (growslice_fits (by omega) hbytes)] at hrun
      cases hrun; exact new _
/-- An append to a row of one's own, in a walk; nothing is frozen by it. -/
theorem wpListIn_append_fz {F : Fence} {k : Nat} {P : Program} (w : World) {ops : Array Oper} {rest : List Oper} {o : Oper} {a : Act} {Q : Exit → Act → World → Prop}
    (hg : o.guard = none) (s x : Operand) (t : TypeId) (hop : o.op = Op.call { callee := Callee.builtin Builtin.append, args := #[s, x], argTypes := #[t, t] })
    (base : Nat) (e : TypeId) (i : TypeInfo) (z : Value) (size bytes : Nat) (h1 : P.underlying t = some (.slice e)) (h2 : P.info? e = some i) (h3 : i.zero = some z) (h4 : i.size = size) (h5 : i.bytes = bytes) (h6 : z.cells.size = size) (h7 : 0 < size)
    (v : Value) (n : Nat) (xs : List Value) (hs : a.eval s = v) (hown : w.ownsRow base e size v n xs) (ad : Addr) (m c : Nat) (news : List Value) (hx : a.eval x = .slice (some ad) m c) (hn : news.length = m * size)
    (hc : ∀ j u, news[j]? = some u → w.cell? (ad.add j) = some u) (h1c : ∀ u ∈ news, u.oneCell' = true) (hm : 0 < m) (b1 : n + m ≤ maxLen) (b2 : (n + m) * bytes ≤ 140737488355328) (b3 : base ≤ w.heap.size)
    (hK : ∀ v' w', w'.ownsRow base e size v' (n + m) (xs ++ news) → w.grownBy w' v.ownBlock → (v' = .slice none 0 0 ↔ v = .slice none 0 0 ∧ m = 0) → (∀ b, w'.frozen? b = w.frozen? b) → wpListIn F k P ops Q rest (a.put o.dst v') w') :
    wpListIn F k P ops Q (o :: rest) a w := by
  refine wpListIn_plain hg fun K hK' => ?_
  obtain ⟨v', w', hrun, r1, r2, r3⟩ := run_append_own (P := P) w base t o.type e i z size bytes h1 h2 h3 h4 h5 h6 h7 v n xs hown ad m c news hn hc h1c b1 b2 b3
  subst h4; subst h5
  have hz := fun b => fz_append h1 h2 h3 hown hn hc h1c hm b1 b2 hrun b
  unfold Oper.wpIn
  refine ⟨?_, ?_⟩
  · simp [Oper.about, hop, resolve, Target.leads, Sem.run_pure]
  · rw [Oper.semAt_plain F _ _ (by rw [hop]; intro c hc'; cases hc')]
    simp [execOp, hop, resolve, invoke, builtin, hs, hx, hrun, Result.andThen]
    exact hK' _ _ (hK v' w' r1 r2 r3 hz)
end Go.Co
end

section
namespace Go.Proofs.YtghlolinkmlkeaaGreatDoor
open Go Go.Co Go.Co.N Go.Proofs Go.RowKit Go.Shelf
attribute [local go_sem] Oper.semAt_some

theorem low_walk {x : Nat} (h0 : 0 < x) (h1 : x < 18446744073709551616) : 0 ≤ IntKind.u64.wrap (Go.bits BinOp.and IntKind.u64 (x : Int) (IntKind.u64.wrap (-(x : Int))) * 285870213051353865) / 288230376151711744 ∧
    IntKind.u64.wrap (Go.bits BinOp.and IntKind.u64 (x : Int) (IntKind.u64.wrap (-(x : Int))) * 285870213051353865) / 288230376151711744 < 64 ∧
    tab64[(IntKind.u64.wrap (Go.bits BinOp.and IntKind.u64 (x : Int) (IntKind.u64.wrap (-(x : Int))) * 285870213051353865) / 288230376151711744).toNat]? = some (tzN x) := by
  have e1 : IntKind.u64.wrap (-(x : Int)) = ((18446744073709551616 - x : Nat) : Int) := by
    show (-(x : Int)) % 18446744073709551616 = _
    omega
  have e2 : Go.bits BinOp.and IntKind.u64 (x : Int) ((18446744073709551616 - x : Nat) : Int) = ((x &&& (18446744073709551616 - x) : Nat) : Int) := bw_and64 _ _ h1 (by omega)
  have e3 : IntKind.u64.wrap (((x &&& (18446744073709551616 - x) : Nat) : Int) * 285870213051353865) = (((x &&& (18446744073709551616 - x)) * 285870213051353865 % 18446744073709551616 : Nat) : Int) := by
    show (((x &&& (18446744073709551616 - x) : Nat) : Int) * 285870213051353865) % 18446744073709551616 = _
    omega
  have hlt : (x &&& (18446744073709551616 - x)) * 285870213051353865 % 18446744073709551616 < 18446744073709551616 := Nat.mod_lt _ (by omega)
  rw [e1, e2, e3]
  refine ⟨by omega, by omega, ?_⟩
  have := tab_low h0 (show x < 2 ^ 64 by omega)
  rw [show (((((x &&& (18446744073709551616 - x)) * 285870213051353865 % 18446744073709551616 : Nat) : Int)) / 288230376151711744).toNat = (x &&& (18446744073709551616 - x)) * 285870213051353865 % 18446744073709551616 / 288230376151711744 by omega]
  exact this
theorem glob_name : ∃ gl, Tryz.prog.globals[0]? = some gl ∧ gl.name = "math/bits.deBruijn64tab" := by
  have h : (Tryz.prog.globals[0]?.map (·.name)) = some "math/bits.deBruijn64tab" := by kernel_rfl
  cases hg : Tryz.prog.globals[0]? with
  | none => rw [hg] at h; cases h
  | some gl => rw [hg] at h; exact ⟨gl, rfl, Option.some.inj h⟩
theorem wrap_tz {x : Nat} (h0 : 0 < x) (h1 : x < 18446744073709551616) : wrap64 (tzN x : Int) = (tzN x : Int) := by
  have := (bitsL_cons h0 (show x < 2 ^ 64 by omega)).1
  exact Go.IntWalk.wrap64_in _ (by omega)
set_option maxHeartbeats 1000000 in
theorem tz_in (F : Fence) (n : Nat) (hF : F.fn 150) (hro : F.round = none) (x : Nat) (h0 : 0 < x) (h1 : x < 18446744073709551616) (w : World) (hg : GOK Tryz.prog w) :
    CallsIn F n Tryz.prog 150 #[.int .u64 (x : Int)] w fun e w' => e = .returned (.int .i64 (tzN x : Int)) ∧ w' = w := by
  obtain ⟨b1, b2, b3⟩ := low_walk h0 h1
  obtain ⟨gl, g1, g2⟩ := glob_name
  have hc := hg 0 gl g1 g2 _ _ b3
  have hx : ¬ (x : Int) = 0 := by omega
  have hx2 : ((x : Int) == 0) = false := by simpa using hx
  refine callsIn_of_wp Tryz.func150 rfl hF ?_ hro
  simp only [Tryz.ntmps150, List.size_toArray, List.length_cons, List.length_nil, Nat.reduceAdd, Nat.reduceSub, Array.replicate_succ, Array.replicate_zero, List.push_toArray, List.append_toArray, List.nil_append, List.cons_append]
  gi_wp2
  rw [wrap_tz h0 h1]
  go_ret
  exact ⟨rfl, rfl⟩

/-! ### The iterator -/
/-- What a box holds of a word. -/
def boxW (W : World) (B : Nat) : Nat := match W.cell? ⟨B, 0, none⟩ with | some (.int _ x) => x.toNat | _ => 0
theorem boxW_eq {W : World} {B x : Nat} {t : TypeId} (h : Boxed W B t (.int .u64 (x : Int))) : boxW W B = x := by
  unfold boxW; rw [h.cell]; simp
theorem pred_walk {x : Nat} (h0 : 0 < x) (h1 : x < 18446744073709551616) : Go.bits BinOp.and IntKind.u64 (x : Int) ((x : Int) - 1) = ((x &&& (x - 1) : Nat) : Int) := by
  have e1 : (x : Int) - 1 = ((x - 1 : Nat) : Int) := by omega
  rw [e1]
  exact bw_and64 _ _ h1 (by omega)
set_option maxRecDepth 100000 in
set_option maxHeartbeats 2000000 in
theorem each1_in (F : Fence) (n : Nat) (h103 : F.fn 149) (h104 : F.fn 150) (hro : F.round = none) (hn : 1 ≤ n) (l Be : Nat) (x0 : Nat) (hx0 : x0 < 18446744073709551616) (J Jx : List Nat → World → Prop)
    (hJ : ∀ pre A x v, J pre A → Boxed A Be 98 x → J pre (A.setCell ⟨Be, 0, none⟩ v)) (hJg : ∀ pre A, J pre A → GOK Tryz.prog A)
    (hY : ∀ (pre : List Nat) (x : Nat) W, J pre W → pre ++ [x] <+: bitsL x0 → YieldAt F (n - 1) Tryz.prog l #[.int .i64 (x : Int)] W fun e W' =>
      (e = .returned (.bool true) ∧ J (pre ++ [x]) W' ∧ W'.heap[Be]? = W.heap[Be]?) ∨ (e = .returned (.bool false) ∧ Jx (pre ++ [x]) W'))
    (W : World) (hBe : Boxed W Be 98 (.int .u64 (x0 : Int))) (h0 : J [] W) :
    CallsIn F n Tryz.prog 149 #[.func (.yield l) #[] #[], .pointer (some ⟨Be, 0, none⟩)] W fun e W' => (∃ v, e = .returned v) ∧ (J (bitsL x0) W' ∨ (∃ pre, pre <+: bitsL x0 ∧ Jx pre W')) := by
  refine callsIn_of_wp Tryz.func149 rfl h103 ?_ hro
  simp only [Tryz.ntmps149, List.size_toArray, List.length_cons, List.length_nil, Nat.reduceAdd, Nat.reduceSub, Array.replicate_succ, Array.replicate_zero, List.push_toArray, List.append_toArray, List.nil_append, List.cons_append]
  gi_wp2
  gi_loopw [] (fun wr => ∃ (pre : List Nat) (rem : Nat), bitsL x0 = pre ++ bitsL rem ∧ rem < 18446744073709551616 ∧ Boxed wr Be 98 (.int .u64 (rem : Int)) ∧ J pre wr)
    (fun wr => boxW wr Be)
  case atStart => exact ⟨[], x0, rfl, hx0, hBe, h0⟩
  case round =>
    obtain ⟨pre, rem, hx, hlt, hb, hJs⟩ := hrel
    have hc := hb.cell
    by_cases hz : rem = 0
    · subst hz
      have hz0 : (((0 : Nat) : Int) == 0) = true := rfl
      gi_wp2
      go_end0
      rw [bitsL_zero, List.append_nil] at hx
      exact ⟨⟨_, rfl⟩, .inl (by rw [hx]; exact hJs)⟩
    · have hz0 : (((rem : Nat) : Int) == 0) = false := by simpa using hz
      obtain ⟨k1, k2, k3⟩ := bitsL_cons (show 0 < rem by omega) (show rem < 2 ^ 64 by omega)
      have hpre : pre ++ [tzN rem] <+: bitsL x0 := ⟨bitsL (rem &&& (rem - 1)), by rw [hx, k2]; simp⟩
      obtain ⟨fn, tmps, assign, body, hy, hR⟩ := hY pre (tzN rem) wr hJs hpre
      gi_wp2_with (gi_at_call 150; refine (tz_in F (n - 1) h104 hro rem (by omega) hlt wr (hJg _ _ hJs)).mono ?_; rintro e w' ⟨rfl, rfl⟩)
      refine hR.mono ?_
      rintro e W3 (⟨rfl, hJ3, hk3⟩ | ⟨rfl, hJx3⟩)
      · have hb3 : Boxed W3 Be 98 (.int .u64 (rem : Int)) := hk3.trans hb
        have hc3 := hb3.cell
        have hf3 := hb3.frozen
        gi_wp2
        rw [pred_walk (by omega) hlt]
        go_roundw
        case rel => exact ⟨pre ++ [tzN rem], rem &&& (rem - 1), by rw [hx, k2]; simp, by omega, hb3.set _, hJ _ _ _ _ hJ3 hb3⟩
        case measure => rw [boxW_eq (hb3.set _), boxW_eq hb]; exact k3
      · gi_wp2
        refine bodyPost_ret (results_none rfl _ _ _) rfl ?_
        exact ⟨⟨_, rfl⟩, .inr ⟨pre ++ [tzN rem], hpre, hJx3⟩⟩
set_option maxHeartbeats 1000000 in
theorem each_in (F : Fence) (n : Nat) (hF : F.fn 142) (hro : F.round = none) (x : Int) (w : World) :
    CallsIn F n Tryz.prog 142 #[.int .u64 x] w fun e w' => e = .returned (.func (.func 149) #[] #[.pointer (some ⟨w.heap.size, 0, none⟩)]) ∧ w' = w.alloc (.cells #[.int .u64 x] 98) := by
  refine callsIn_of_wp Tryz.func142 rfl hF ?_ hro
  simp only [Tryz.ntmps142, List.size_toArray, List.length_cons, List.length_nil, Nat.reduceAdd, Nat.reduceSub, Array.replicate_succ, Array.replicate_zero, List.push_toArray, List.append_toArray, List.nil_append, List.cons_append]
  gi_wp2
  go_ret
  exact ⟨rfl, rfl⟩

/-! ### The least free slots -/
theorem count_calls (h : ConOK Tryz.prog 111 c_seats_Count) (s : Nat) (hs : s < 18446744073709551616) (w : World) (hg : GOK Tryz.prog w) :
    CallsIn Fence.wide 9 Tryz.prog 111 #[.int .u64 (s : Int)] w fun e w' => e = .returned (.int .i64 (cntW (s : Int))) ∧ Blw w.heap.size w w' := by
  refine callsIn_wide.2 (Calls.mono (h.run w (fun _ => False) ((s : Int), ()) [.int .u64 (s : Int)] _ hg (fun _ h => h.elim) ⟨⟨_, rfl, Rd.int.2 ⟨rfl, ?_⟩⟩, trivial⟩ rfl) ?_)
  · rw [inKind_iff]; show 0 ≤ (s : Int) ∧ (s : Int) ≤ 18446744073709551615; omega
  · rintro e w' ⟨z, rfl, hb, cs, hz, hr⟩
    have hr := (Rd.int.1 hr).1
    subst hr
    exact ⟨by rw [hz]; rfl, hb⟩
theorem bit_calls (h : ConOK Tryz.prog 143 c_seats_bit) (i : Nat) (hi : i < 64) (w : World) (hg : GOK Tryz.prog w) :
    CallsIn Fence.wide 7 Tryz.prog 143 #[.int .i64 (i : Int)] w fun e w' => e = .returned (.int .u64 ((2 ^ i : Nat) : Int)) ∧ Blw w.heap.size w w' := by
  refine callsIn_wide.2 (Calls.mono (h.run w (fun _ => False) ((i : Int), ()) [.int .i64 (i : Int)] _ hg (fun _ h => h.elim) ⟨⟨_, rfl, Rd.int.2 ⟨rfl, ?_⟩⟩, trivial⟩ rfl) ?_)
  · rw [inKind_iff]; show -9223372036854775808 ≤ (i : Int) ∧ (i : Int) ≤ 9223372036854775807; omega
  · rintro e w' ⟨z, rfl, hb, cs, hz, hr⟩
    have hr := (Rd.int.1 hr).1
    subst hr
    refine ⟨?_, hb⟩
    rw [hz]
    show Ending.returned (Value.int IntKind.u64 (bitOf (i : Int))) = _
    unfold bitOf
    rw [if_pos ⟨by omega, by omega⟩, Int.toNat_natCast]
/-- An answer of three. -/
def takeRes (W : World) (base : Nat) (z : Value) (l : List Nat) (s : Nat) : Prop := ∃ v, z = .tuple #[v, .int .u64 (s : Int), .int .i64 0] ∧ W.ownsRow base 3 1 v l.length (l.map fun (i : Nat) => Value.int .i64 (i : Int))
theorem region_key {F : Fence} {n : Nat} {P : Program} {c : Code} {K : Act → World → Prop} {X : Exit → Act → World → Prop} {a : Act} {w : World} (a' : Act) (Inv : World → Prop) (h1 : ∀ w', Inv w' → K a' w')
    (h2 : c.wpIn F n P (Exit.then (fun a w => a = a' ∧ Inv w) (fun _ _ _ => False)) a w) : c.wpIn F n P (Exit.then K X) a w :=
  Go.wpIn_mono h2 fun e a w h => by
    cases e with
    | normal => obtain ⟨rfl, h⟩ := h; exact h1 w h
    | _ => exact h.elim
theorem region_calm {F : Fence} {n : Nat} {P : Program} {c : Code} {K : Act → World → Prop} {X : Exit → Act → World → Prop} {a : Act} {w : World} (h : c.wpIn F n P (Exit.then K (fun _ _ _ => False)) a w) : c.wpIn F n P (Exit.then K X) a w :=
  Go.wpIn_mono h fun e a w h => by cases e <;> first | exact h | exact h.elim
theorem res116 (tmps : Array Value) (w : World) : (results Tryz.f116 tmps).run Tryz.prog w = .ok (.tuple #[tmps.getD 4 undef, tmps.getD 5 undef, tmps.getD 6 undef]) w := by
  simp [results, Tryz.f116, go_sem]
theorem compl_bits {s : Nat} (hs : s < 18446744073709551616) : Go.bits BinOp.xor IntKind.u64 IntKind.u64.max (s : Int) = ((18446744073709551615 - s : Nat) : Int) := by
  have hx : bw .xor .u64 ((18446744073709551615 : Nat) : Int) (s : Int) = ((18446744073709551615 ^^^ s : Nat) : Int) :=
    bwN (op := .xor) (f := fun a b => a ^^^ b) (fun a b ha hb => Nat.xor_lt_two_pow (n := 64) ha hb) (fun a b ha hb => by
      show (BitVec.ofNat 64 a ^^^ BitVec.ofNat 64 b).toNat = _
      simp [BitVec.toNat_xor, Nat.mod_eq_of_lt ha, Nat.mod_eq_of_lt hb]) _ _ (by omega) hs
  refine hx.trans ?_
  congr 1
  apply Nat.eq_of_testBit_eq
  intro i
  have h1 := Nat.testBit_two_pow_sub_one 64 i
  have h2 := Nat.testBit_two_pow_sub_succ (n := 64) (x := s) (by omega) i
  rw [Nat.testBit_xor, show (18446744073709551615 : Nat) = 2 ^ 64 - 1 from rfl, h1, show (2 : Nat) ^ 64 - 1 - s = 2 ^ 64 - (s + 1) by omega, h2]
  by_cases hi : i < 64
  · simp [hi]
  · have : s.testBit i = false := Nat.testBit_lt_two_pow (Nat.lt_of_lt_of_le (show s < 2 ^ 64 by omega) (Nat.pow_le_pow_right (by omega) (by omega)))
    simp [hi, this]
theorem bitI_nat (s i : Nat) : bitI (s : Int) i = s.testBit i := by
  unfold bitI
  rw [Nat.testBit_eq_decide_div_mod_eq]
  congr 1
  rw [show ((s : Int) / 2 ^ i) = ((s / 2 ^ i : Nat) : Int) by simp]
  simp only [eq_iff_iff]; omega
theorem bitsL_compl {s : Nat} (hs : s < 18446744073709551616) : bitsL (18446744073709551615 - s) = freeL (s : Int) := by
  unfold bitsL freeL
  refine List.filter_congr fun i hi => ?_
  have hi : i < 64 := by simpa using hi
  have h2 := Nat.testBit_two_pow_sub_succ (n := 64) (x := s) (by omega) i
  rw [show (18446744073709551615 : Nat) - s = 2 ^ 64 - (s + 1) by omega, h2, bitI_nat]
  simp [hi]
theorem freeL_len (s : Nat) : (freeL (s : Int)).length = 64 - cntW (s : Int) := by
  unfold freeL cntW
  rw [filter_cnt, filter_cnt]
  have := cntP_not (bitI (s : Int)) 64
  omega
theorem orL_snoc (s : Nat) (l : List Nat) (i : Nat) : orL s (l ++ [i]) = orL s l ||| 2 ^ i := by simp [orL]
theorem orL_lt {s : Nat} (hs : s < 18446744073709551616) : ∀ l : List Nat, (∀ i ∈ l, i < 64) → orL s l < 18446744073709551616 := by
  intro l
  induction l generalizing s with
  | nil => intro _; exact hs
  | cons i l ih =>
    intro h
    refine ih ?_ fun j hj => h j (List.mem_cons_of_mem _ hj)
    have h2 : (2 : Nat) ^ i < 2 ^ 64 := Nat.pow_lt_pow_right (by omega) (h i (List.mem_cons_self ..))
    exact Nat.or_lt_two_pow (n := 64) hs h2
theorem or_walk {a b : Nat} (ha : a < 18446744073709551616) (hb : b < 18446744073709551616) : Go.bits BinOp.or IntKind.u64 (a : Int) (b : Int) = ((a ||| b : Nat) : Int) := bw_or64 _ _ ha hb
theorem bitsL_lt {x i : Nat} (h : i ∈ bitsL x) : i < 64 := by
  unfold bitsL at h
  simp only [List.mem_filter, List.mem_range] at h
  exact h.1
/-- What the loop keeps. -/
def takeI (w : World) (s : Nat) (n : Int) (N0 Bo : Nat) (pre : List Nat) (W : World) : Prop :=
  Blw w.heap.size w W ∧ N0 ≤ W.heap.size ∧ Boxed W w.heap.size 98 (.int .u64 (orL s pre : Int)) ∧ Boxed W (w.heap.size + 1) 3 (.int .i64 n) ∧ pre.length ≤ n.toNat ∧ ∃ v, Boxed W Bo 43 v ∧ W.ownsRow N0 3 1 v pre.length (pre.map fun (i : Nat) => Value.int .i64 (i : Int))
theorem Boxed.putObj {A : World} {B : Nat} {t : TypeId} {v : Value} (h : Boxed A B t v) {l : Nat} {o o' : Obj} (hl : A.heap[l]? = some o) (ho : o.isCells = false) : Boxed (A.putObj l o') B t v := by
  have hne : B ≠ l := fun e => by
    rw [e] at h
    rw [show A.heap[l]? = _ from h] at hl
    cases hl; cases ho
  exact (World.putObj_heap_other hne).trans h
theorem ownsRow_base {W : World} {b b' : Nat} {e : TypeId} {size : Nat} {v : Value} {k : Nat} {xs : List Value} (h : W.ownsRow b e size v k xs) (hb : b' ≤ b) : W.ownsRow b' e size v k xs := by
  refine ⟨h.1, ?_⟩
  rcases h.2 with h | ⟨g, cap, cur, h1, h2, h3⟩
  · exact .inl h
  · exact .inr ⟨g, cap, cur, h1, by omega, h3⟩
theorem ownsRow_form {W : World} {b : Nat} {e : TypeId} {size : Nat} {v : Value} {k : Nat} {xs : List Value} (h : W.ownsRow b e size v k xs) : ∃ ad cap, v = .slice ad k cap := by
  rcases h.2 with ⟨rfl, rfl⟩ | ⟨g, cap, cur, rfl, _⟩
  · exact ⟨_, _, rfl⟩
  · exact ⟨_, _, rfl⟩
theorem keeps_blw {A B : World} (h : Blw A.heap.size A B) : KeepsOthers A B := ⟨h.size, fun j o ho _ => (h.block j (Array.getElem?_eq_some_iff.1 ho).1).trans ho⟩
theorem takeI_cl (w : World) (s : Nat) (n : Int) (N0 Bo n0 : Nat) (hn : w.heap.size ≤ n0) : Cl n0 (takeI w s n N0 Bo) := by
  constructor
  · rintro pre A o ho ⟨h1, h2, h3, h4, h5, v, h6, h7⟩
    refine ⟨(.of (h1.toBelow.alloc h1.size o)), by simp; omega, h3.alloc _, h4.alloc _, h5, v, h6.alloc _, h7.alloc _⟩
  · rintro pre A l o o' hl ⟨h1, h2, h3, h4, h5, v, h6, h7⟩ hlo ho ho'
    refine ⟨(.of (⟨h1.os, h1.tape, h1.output, Nat.le_trans h1.size (grownBy_putObj' A l o').size, fun k hk => (World.putObj_heap_other (by omega)).trans (h1.block k hk)⟩)), Nat.le_trans h2 (grownBy_putObj' A l o').size, Boxed.putObj h3 hlo ho, Boxed.putObj h4 hlo ho, h5, v, Boxed.putObj h6 hlo ho, ownsRow_putObj h7 _ hlo ho⟩
set_option maxRecDepth 100000 in
set_option maxHeartbeats 4000000 in
theorem take_in (hcn : ConOK Tryz.prog 111 c_seats_Count) (hbt : ConOK Tryz.prog 143 c_seats_bit) (s : Nat) (hs : s < 18446744073709551616) (n : Int) (hn : -9223372036854775808 ≤ n ∧ n ≤ 9223372036854775807) (w : World) (hg : GOK Tryz.prog w) :
    CallsIn Fence.wide 10 Tryz.prog 116 #[.int .u64 (s : Int), .int .i64 n] w fun e W' => ∃ z, e = .returned z ∧ Blw w.heap.size w W' ∧
      (n < 0 → z = .tuple #[.slice none 0 0, .int .u64 0, .int .i64 1]) ∧ (0 ≤ n → 64 - cntW (s : Int) < n → z = .tuple #[.slice none 0 0, .int .u64 0, .int .i64 18]) ∧
      (0 ≤ n → n ≤ 64 - cntW (s : Int) → takeRes W' w.heap.size z ((freeL (s : Int)).take n.toNat) (orL s ((freeL (s : Int)).take n.toNat))) := by
  refine callsIn_of_wp_marks Tryz.func116 rfl trivial ?_ rfl
  simp only [Tryz.ntmps116, List.size_toArray, List.length_cons, List.length_nil, Nat.reduceAdd, Nat.reduceSub, Array.replicate_succ, Array.replicate_zero, List.push_toArray, List.append_toArray, List.nil_append, List.cons_append]
  have hmx : Tryz.prog.follows .mixedOrders = true := by kernel_rfl
  gi_wp2
  · exact ⟨_, res116 _ _, _, rfl, (.of (((Below.refl _ w).alloc (Nat.le_refl _) _).alloc (by simp) _)), fun _ => rfl, fun h => absurd h (by omega), fun h => absurd h (by omega)⟩
  · have bS : Boxed ((w.alloc (.cells #[.int .u64 (s : Int)] 98)).alloc (.cells #[.int .i64 n] 3)) w.heap.size 98 (.int .u64 (s : Int)) := (Boxed.new w 98 _).alloc _
    have bN : Boxed ((w.alloc (.cells #[.int .u64 (s : Int)] 98)).alloc (.cells #[.int .i64 n] 3)) (w.heap.size + 1) 3 (.int .i64 n) := by
      have := Boxed.new (w.alloc (.cells #[.int .u64 (s : Int)] 98)) 3 (.int .i64 n)
      rwa [World.size_alloc] at this
    have b0 : Blw w.heap.size w ((w.alloc (.cells #[.int .u64 (s : Int)] 98)).alloc (.cells #[.int .i64 n] 3)) := (.of (((Below.refl _ w).alloc (Nat.le_refl _) _).alloc (by simp) _))
    generalize hW2 : (w.alloc (.cells #[.int .u64 (s : Int)] 98)).alloc (.cells #[.int .i64 n] 3) = W2 at *
    have hlt2 : w.heap.size + 2 ≤ W2.heap.size := by rw [← hW2]; simp
    have c1 := bS.cell
    have c2 := bN.cell
    have hg2 : GOK Tryz.prog W2 := hg.blw b0 (Nat.le_refl _)
    have hcw := cntW_le (s : Int)
    have hwr : IntKind.i64.wrap (64 - cntW (s : Int)) = 64 - cntW (s : Int) := i64_in _ (by omega)
    refine region_key { tmps := #[.int .u64 (s : Int), .int .i64 n, .pointer (some ⟨w.heap.size, 0, none⟩), .pointer (some ⟨w.heap.size + 1, 0, none⟩), .slice none 0 0, .int .u64 0, .int .i64 0, undef, undef, .bool (decide (n < 0)), .int .i64 n, .bool (decide (n < 0)), .bool (decide ((64 - cntW (s : Int)) < n)), .int .i64 n, .int .u64 (s : Int), .int .i64 (cntW (s : Int)), .int .i64 ((64 - cntW (s : Int))), .bool (decide ((64 - cntW (s : Int)) < n)), undef, undef, undef, undef, undef, undef, undef, undef, undef, undef, undef, undef, undef, undef, undef, undef, undef, undef], defers := [] }
      (fun w' => Blw w.heap.size w w' ∧ Boxed w' w.heap.size 98 (.int .u64 (s : Int)) ∧ Boxed w' (w.heap.size + 1) 3 (.int .i64 n)) ?_ ?_
    rotate_left
    · gi_region_with_o (refine ⟨trivial, ?_⟩; gi_at_call 111; refine (count_calls hcn s hs W2.drew hg2).mono ?_; rintro e w' ⟨rfl, hb⟩; have bS3 : Boxed w' w.heap.size 98 (.int .u64 (s : Int)) := (hb.block _ (show w.heap.size < W2.heap.size by omega)).trans bS; have bN3 : Boxed w' (w.heap.size + 1) 3 (.int .i64 n) := (hb.block _ (show w.heap.size + 1 < W2.heap.size by omega)).trans bN; have b3 : Blw w.heap.size w w' := (b0.trans (.of (Below.refl _ W2).drew)).trans (hb.mono (show w.heap.size ≤ W2.heap.size by omega)); have c3 := bS3.cell; have c4 := bN3.cell)
      all_goals exact ⟨rfl, b3, bS3, bN3⟩
    rintro w' ⟨b3, bS3, bN3⟩
    have c3 := bS3.cell
    have c4 := bN3.cell
    have bS4 := bS3.alloc (.cells #[.slice none 0 0] 43)
    have c5 := bS4.cell
    gi_wp2_with (refine ⟨trivial, ?_⟩; gi_at_call 142; refine (each_in Fence.wide 9 trivial rfl _ _).mono ?_; rintro e w2 ⟨rfl, rfl⟩)
    · exact ⟨_, res116 _ _, _, rfl, b3, fun h => absurd h (by omega), fun _ _ => rfl, fun _ h => absurd h (by omega)⟩
    · rw [compl_bits hs]
      have hle : w.heap.size + 2 ≤ w'.heap.size := by have := bN3.lt; omega
      have bS5 := bS4.alloc (.cells #[.int .u64 ((18446744073709551615 - s : Nat) : Int)] 98)
      have bN5 := (bN3.alloc (.cells #[.slice none 0 0] 43)).alloc (.cells #[.int .u64 ((18446744073709551615 - s : Nat) : Int)] 98)
      have bO5 := (Boxed.new w' 43 (.slice none 0 0)).alloc (.cells #[.int .u64 ((18446744073709551615 - s : Nat) : Int)] 98)
      have bE5 := Boxed.new (w'.alloc (.cells #[.slice none 0 0] 43)) 98 (.int .u64 ((18446744073709551615 - s : Nat) : Int))
      rw [World.size_alloc] at bE5
      have hB5 : Blw w.heap.size w ((w'.alloc (.cells #[.slice none 0 0] 43)).alloc (.cells #[.int .u64 ((18446744073709551615 - s : Nat) : Int)] 98)) := (.of ((b3.toBelow.alloc b3.size _).alloc (by simp; exact Nat.le_succ_of_le b3.size) _))
      have hsz : ((w'.alloc (.cells #[.slice none 0 0] 43)).alloc (.cells #[.int .u64 ((18446744073709551615 - s : Nat) : Int)] 98)).heap.size = w'.heap.size + 2 := by simp
      generalize (w'.alloc (.cells #[.slice none 0 0] 43)).alloc (.cells #[.int .u64 ((18446744073709551615 - s : Nat) : Int)] 98) = W0 at *
      obtain ⟨i0, hi, hz0, hz1, hz2⟩ := info_parts (show (Tryz.prog.info? 3).map (fun i => (i.zero, i.size, i.bytes)) = some (some (.int .i64 0), 1, 8) by kernel_rfl)
      refine rangeFunc_box (n := 10) rfl (by omega) (gf := 149) (lb := #[.pointer (some ⟨w'.heap.size + 1, 0, none⟩)]) rfl trivial (enters_of Tryz.func149 (by kernel_rfl) rfl) (encs := fun x : Nat => #[Value.int .i64 (x : Int)]) (Be := w'.heap.size + 1) (tB := 98) (xB := .int .u64 ((18446744073709551615 - s : Nat) : Int)) (G := GOK Tryz.prog) (xs := bitsL (18446744073709551615 - s)) (fun _ => rfl)
        (fun l J Jx W hJ hG hY hB h0 => each1_in Fence.wide 9 trivial trivial rfl (by omega) l (w'.heap.size + 1) _ (by omega) J Jx hJ hG hY W hB h0)
        bE5 (takeI w s n W0.heap.size w'.heap.size) (fun c pre W => c = .exit 1 ∧ ∃ (pre0 : List Nat) (x : Nat), pre = pre0 ++ [x] ∧ pre0.length = n.toNat ∧ takeI w s n W0.heap.size w'.heap.size pre0 W)
        (takeI_cl w s n _ _ _ (by omega)) (fun c => ⟨fun pre A o ho ⟨h1, pre0, x, h2, h3, h4⟩ => ⟨h1, pre0, x, h2, h3, (takeI_cl w s n _ _ W0.heap.size (by omega)).alloc _ _ _ ho h4⟩, fun pre A l o o' hl ⟨h1, pre0, x, h2, h3, h4⟩ hlo ho ho' => ⟨h1, pre0, x, h2, h3, (takeI_cl w s n _ _ W0.heap.size (by omega)).putObj _ _ _ _ _ hl h4 hlo ho ho'⟩⟩)
        ?set (fun pre A h => hg.blw h.1 (Nat.le_refl _)) ⟨hB5, Nat.le_refl _, bS5, bN5, by simp, _, bO5, World.ownsRow_nil _ _ _ _⟩
        (fun x => { tmps := #[.int .u64 (s : Int), .int .i64 n, .pointer (some ⟨w.heap.size, 0, none⟩), .pointer (some ⟨w.heap.size + 1, 0, none⟩), .slice none 0 0, .int .u64 0, .int .i64 0, .pointer (some ⟨w'.heap.size, 0, none⟩), .int .i64 (x : Int), .bool (decide (n < 0)), .int .i64 n, .bool (decide (n < 0)), .bool (decide ((64 - cntW (s : Int)) < n)), .int .i64 n, .int .u64 (s : Int), .int .i64 (cntW (s : Int)), .int .i64 (64 - cntW (s : Int)), .bool (decide ((64 - cntW (s : Int)) < n)), .int .u64 (s : Int), .int .u64 ((18446744073709551615 - s : Nat) : Int), .func (.func 149) #[] #[.pointer (some ⟨w'.heap.size + 1, 0, none⟩)], .int .i64 (x : Int), undef, undef, undef, undef, undef, undef, undef, undef, undef, undef, undef, undef, undef, undef], defers := [] })
        ?assign ?body ?done ?stop
      case set =>
        rintro pre A x v ⟨h1, h2, h3, h4, h5, v', h6, h7⟩ hb
        have oth : ∀ {B : Nat} {t : TypeId} {u : Value}, B ≠ w'.heap.size + 1 → Boxed A B t u → Boxed (A.setCell ⟨w'.heap.size + 1, 0, none⟩ v) B t u := fun hne h => (Below.heap_setCell _ _ _ _ hne).trans h
        refine ⟨(.of (h1.toBelow.setCell (p := ⟨w'.heap.size + 1, 0, none⟩) (show w.heap.size ≤ w'.heap.size + 1 by omega) _)), Nat.le_trans h2 (grownBy_setCell' A _ v).size, oth (by omega) h3, oth (by omega) h4, h5, v', oth (by omega) h6, h7.kept (grownBy_setCell' A _ v) ?_⟩
        rcases h7.2 with ⟨rfl, _⟩ | ⟨g, cap, cur, rfl, hbg, _⟩
        · exact .inl rfl
        · exact .inr (by simp [Value.ownBlock]; omega)
      case assign =>
        intro l x W K hK
        gi_wp2
        exact hK
      case body =>
        rintro l pre x W ⟨h1, h2, h3, h4, h5, v, h6, h7⟩ hpre
        have hx64 : x < 64 := bitsL_lt (hpre.subset (List.mem_append.2 (.inr (by simp))))
        have hp64 : ∀ i ∈ pre, i < 64 := fun i hi => bitsL_lt (hpre.subset (List.mem_append.2 (.inl hi)))
        have hol := orL_lt hs pre hp64
        have hxp : (2 : Nat) ^ x < 18446744073709551616 := Nat.pow_lt_pow_right (by omega) hx64
        have hplen : pre.length ≤ 64 := by
          have := hpre.length_le
          have h2 : (bitsL (18446744073709551615 - s)).length ≤ 64 := by unfold bitsL; have := List.length_filter_le (fun i => (18446744073709551615 - s).testBit i) (List.range 64); simpa using this
          simp at this; omega
        have hml : (65 : Nat) ≤ maxLen := by decide
        obtain ⟨ad, cap, rfl⟩ := ownsRow_form h7
        have k3 := h3.cell
        have k4 := h4.cell
        have k6 := h6.cell
        have k3f := h3.frozen
        have k6f := h6.frozen
        gi_wp2_with (gi_at_builtin; refine wpListIn_append_fz _ rfl _ _ 43 rfl W0.heap.size 3 i0 (.int .i64 0) 1 8 Tryz.underlying43 hi hz0 hz1 hz2 rfl (by decide) _ _ _ rfl (h7.alloc _) ⟨W.heap.size, 0, none⟩ 1 1 [.int .i64 (x : Int)] rfl rfl (cell_one_new _ _ _) (by simp [Value.oneCell']) (by omega) (by omega) (by omega) (by simp; omega) ?_; intro v' w1 hown' hgrow _ hfz; obtain ⟨g', cap', rfl⟩ := ownsRow_succ hown'; obtain ⟨hv1, hv2, hr2, hk2, hb2⟩ := h6.appended (by decide) (ownsRow_base h7 (show w'.heap.size ≤ W0.heap.size by omega)) (by omega) (Nat.le_refl _) (ownsRow_base hown' (show w'.heap.size ≤ W0.heap.size by omega)) hgrow; have hB3 : Blw w'.heap.size W (w1.setCell ⟨w'.heap.size, 0, none⟩ (.slice (some ⟨g', 0, none⟩) (pre.length + 1) cap')) := (.of (hb2)); clear hfz; have hc1 := hv1.cell; have hf1 := hv1.frozen)
        · refine ⟨KeepsOthers.refl _, rfl, pre, x, rfl, ?_, h1, h2, h3, h4, h5, _, h6, h7⟩
          have : ((pre.length : Int) == n) = true := by assumption
          have := eq_of_beq this
          omega
        · have hBe : (w1.setCell ⟨w'.heap.size, 0, none⟩ (.slice (some ⟨g', 0, none⟩) (pre.length + 1) cap')).heap[w'.heap.size + 1]? = W.heap[w'.heap.size + 1]? := by
            have hgr : World.grownBy _ w1 (Value.slice ad pre.length cap).ownBlock := hgrow
            refine (Below.heap_setCell _ _ _ _ (by simp)).trans ((hgr.block _ (by simp; omega) ?_).trans (Below.heap_alloc _ _ _ (by omega)))
            rcases h7.2 with ⟨e, _⟩ | ⟨g, cap2, cur, e, hbg, _⟩
            · rw [e]; simp [Value.ownBlock]
            · rw [e]; simp [Value.ownBlock]; omega
          have hne : pre.length ≠ n.toNat := fun e => by
            have : ((pre.length : Int) == n) = false := by assumption
            rw [beq_eq_false_iff_ne] at this
            omega
          have hr3 := hown'.kept (grownBy_setCell' w1 w'.heap.size (.slice (some ⟨g', 0, none⟩) (pre.length + 1) cap')) (.inr (hv1.not_row (by decide) hown').symm)
          have s3 := (hB3.block _ (show w.heap.size < w'.heap.size by omega)).trans h3
          have n3 := (hB3.block _ (show w.heap.size + 1 < w'.heap.size by omega)).trans h4
          have B3 : Blw w.heap.size w (w1.setCell ⟨w'.heap.size, 0, none⟩ (.slice (some ⟨g', 0, none⟩) (pre.length + 1) cap')) := h1.trans (hB3.mono (by omega))
          have sz3 : W0.heap.size ≤ (w1.setCell ⟨w'.heap.size, 0, none⟩ (.slice (some ⟨g', 0, none⟩) (pre.length + 1) cap')).heap.size := Nat.le_trans h2 hB3.size
          generalize w1.setCell ⟨w'.heap.size, 0, none⟩ (.slice (some ⟨g', 0, none⟩) (pre.length + 1) cap') = W3 at *
          have s3b : Boxed W3 w.heap.size 98 (.int .u64 (orL s pre : Int)) := s3
          have n3b : Boxed W3 (w.heap.size + 1) 3 (.int .i64 n) := n3
          have q1 := s3b.cell
          have q2 := s3b.frozen
          have B3d : Blw w.heap.size w W3.drew := B3.trans (.of (Below.refl _ W3).drew)
          have hg3 : GOK Tryz.prog W3.drew := hg.blw B3d (Nat.le_refl _)
          have fin : ∀ w4, Blw W3.heap.size W3.drew w4 → KeepsOthers W (w4.setCell ⟨w.heap.size, 0, none⟩ (.int .u64 (Go.bits BinOp.or IntKind.u64 (orL s pre : Int) (2 ^ x)))) ∧ (w4.setCell ⟨w.heap.size, 0, none⟩ (.int .u64 (Go.bits BinOp.or IntKind.u64 (orL s pre : Int) (2 ^ x)))).heap[w'.heap.size + 1]? = W.heap[w'.heap.size + 1]? ∧
              takeI w s n W0.heap.size w'.heap.size (pre ++ [x]) (w4.setCell ⟨w.heap.size, 0, none⟩ (.int .u64 (Go.bits BinOp.or IntKind.u64 (orL s pre : Int) (2 ^ x)))) := fun w4 hb4 => by
            have e2 : ((2 : Int) ^ x) = ((2 ^ x : Nat) : Int) := by simp
            rw [e2, or_walk hol hxp, ← orL_snoc]
            have s4 : Boxed w4 w.heap.size 98 (.int .u64 (orL s pre : Int)) := (hb4.block _ (show w.heap.size < W3.heap.size by omega)).trans s3b
            have n4 : Boxed w4 (w.heap.size + 1) 3 (.int .i64 n) := (hb4.block _ (show w.heap.size + 1 < W3.heap.size by omega)).trans n3b
            have o4 : Boxed w4 w'.heap.size 43 (.slice (some ⟨g', 0, none⟩) (pre.length + 1) cap') := (hb4.block _ (show w'.heap.size < W3.heap.size by omega)).trans hv2
            have hgl : g' < W3.heap.size := by
              rcases hr3.2 with ⟨e, _⟩ | ⟨g, cap2, cur, e, _, hgb, _⟩
              · cases e
              · cases e; exact (Array.getElem?_eq_some_iff.1 hgb).1
            have r4 : w4.ownsRow W0.heap.size 3 1 (.slice (some ⟨g', 0, none⟩) (pre.length + 1) cap') (pre.length + 1) ((pre.map fun (i : Nat) => Value.int .i64 (i : Int)) ++ [Value.int .i64 (x : Int)]) := by
              refine ⟨hr3.1, ?_⟩
              rcases hr3.2 with ⟨e, _⟩ | ⟨g, cap2, cur, e, k1, hgb, k2⟩
              · cases e
              · cases e
                exact .inr ⟨g', cap', cur, rfl, k1, (hb4.block _ hgl).trans hgb, k2⟩
            refine ⟨(hk2.trans (KeepsOthers.drew W3)).trans ((keeps_blw (A := W3.drew) hb4).trans (KeepsOthers.setCell _ _ _)), (Below.heap_setCell _ _ _ _ (by simp; omega)).trans ((hb4.block _ (show w'.heap.size + 1 < W3.heap.size by omega)).trans hBe), ?_⟩
            have b4 : Blw w.heap.size w w4 := B3d.trans (hb4.mono (by omega))
            refine ⟨(.of (b4.toBelow.setCell (p := ⟨w.heap.size, 0, none⟩) (Nat.le_refl _) _)), Nat.le_trans (Nat.le_trans sz3 hb4.size) (grownBy_setCell' w4 _ _).size, s4.set _, (Below.heap_setCell _ _ _ _ (by simp)).trans n4, by simp; omega, _, (Below.heap_setCell _ _ _ _ (by simp; omega)).trans o4, ?_⟩
            have := r4.kept (grownBy_setCell' w4 w.heap.size (.int .u64 (orL s (pre ++ [x]) : Int))) (.inr (s4.not_row (by decide) r4).symm)
            simpa using this
          gi_region_with_o (refine ⟨trivial, ?_⟩; gi_at_call 143; refine (CallsIn.inRound l (bit_calls hbt x hx64 W3.drew hg3)).mono ?_; rintro e w4 ⟨rfl, hb4⟩; have s4 : Boxed w4 w.heap.size 98 (.int .u64 (orL s pre : Int)) := (hb4.block _ (show w.heap.size < W3.heap.size by omega)).trans s3b; have q3 := s4.cell; have q4 := s4.frozen)
          all_goals (gi_wp2; exact fin w4 hb4)
      case done =>
        rintro D W hT hK hD
        rw [bitsL_compl hs] at hT
        have hnn : 0 ≤ n := by omega
        have hlen := freeL_len s
        have h5' := hT.2.2.2.2.1
        have hall : (freeL (s : Int)).take n.toNat = freeL (s : Int) := List.take_of_length_le (by omega)
        obtain ⟨h1, h2, h3, h4, h5, v, h6, h7⟩ := hT
        obtain ⟨ad, cap, rfl⟩ := ownsRow_form h7
        have k3 := h3.cell
        have k6 := h6.cell
        gi_wp2
        refine region_calm ?_
        gi_region_with_o (fail)
        all_goals gi_wp2
        all_goals refine ⟨by simp, .inl ⟨_, _, rfl, run_takeDeferred (show W.drew.heap[D]? = _ from hK), ?_⟩⟩
        all_goals refine ⟨_, res116 _ _, _, rfl, (.of (⟨h1.os, h1.tape, h1.output, Nat.le_trans h1.size (grownBy_putObj' W.drew D (.deferred none)).size, fun k hk => (World.putObj_heap_other (by omega)).trans (h1.block k hk)⟩)), fun h => absurd h (by omega), fun _ h => absurd h (by omega), fun _ _ => ?_⟩
        all_goals rw [hall]
        all_goals exact ⟨_, rfl, ownsRow_putObj (ownsRow_base h7 (by omega)) _ hK rfl⟩
      case stop =>
        rintro D c pre W hpre ⟨rfl, pre0, x, rfl, hl, hT⟩ hK hD
        rw [bitsL_compl hs] at hpre
        have hnn : 0 ≤ n := by omega
        have hall : (freeL (s : Int)).take n.toNat = pre0 := by
          obtain ⟨r, hr⟩ := hpre
          rw [← hr, ← hl]; simp
        clear hl
        obtain ⟨h1, h2, h3, h4, h5, v, h6, h7⟩ := hT
        obtain ⟨ad, cap, rfl⟩ := ownsRow_form h7
        have k3 := h3.cell
        have k6 := h6.cell
        gi_wp2
        refine region_calm ?_
        gi_region_with_o (fail)
        all_goals gi_wp2
        all_goals refine ⟨by simp, .inl ⟨_, _, rfl, run_takeDeferred (show W.drew.heap[D]? = _ from hK), ?_⟩⟩
        all_goals refine ⟨_, res116 _ _, _, rfl, (.of (⟨h1.os, h1.tape, h1.output, Nat.le_trans h1.size (grownBy_putObj' W.drew D (.deferred none)).size, fun k hk => (World.putObj_heap_other (by omega)).trans (h1.block k hk)⟩)), fun h => absurd h (by omega), fun _ h => absurd h (by omega), fun _ _ => ?_⟩
        all_goals rw [hall]
        all_goals exact ⟨_, rfl, ownsRow_putObj (ownsRow_base h7 (by omega)) _ hK rfl⟩
theorem res_take {W : World} {im : Nat → Prop} {v : Value} {l : List Int} {s e : Int} {cs : List Value} (h1 : v = pk false cs) (h2 : Rd W im (.list .i) l cs) (hs : inKind .u64 s = true) (he : inKind .i64 e = true) :
    RV ⟨fun _ => none, W, im⟩ (resAV [.list .i, .int .u64, .i] (l, s, e, ())) (.tuple #[v, .int .u64 s, .int .i64 e]) := by
  refine ⟨[v, .int .u64 s, .int .i64 e], rfl, cs, _, ?_, h2, [.int .u64 s], _, rfl, Rd.int.2 ⟨rfl, hs⟩, [.int .i64 e], _, rfl, Rd.int.2 ⟨rfl, he⟩, rfl⟩
  rw [h1]; rfl
theorem row_ints {W : World} {base : Nat} {v : Value} {l : List Nat} (h : W.ownsRow base 3 1 v l.length (l.map fun (i : Nat) => Value.int .i64 (i : Int))) (hl : ∀ i ∈ l, i < 64) (hn : l.length ≤ 64) (im : Nat → Prop) (him : ∀ k, base ≤ k → k < W.heap.size → im k) :
    ∃ cs, v = pk false cs ∧ Rd W im (.list .i) (l.map fun (i : Nat) => (i : Int)) cs := by
  have hb : List.length (l.map fun (i : Nat) => (i : Int)) * Ty.bytes .i ≤ top := by
    rw [List.length_map]
    have : (64 : Nat) * Ty.bytes .i ≤ top := by decide
    exact Nat.le_trans (Nat.mul_le_mul_right _ hn) this
  rcases h.2 with ⟨rfl, h0⟩ | ⟨g, cap, cur, rfl, hbg, hg, hc, hcm, hsz, htk⟩
  · refine ⟨[.slice none 0 0], rfl, Rd.list.2 ⟨hb, .inl ⟨rfl, ?_⟩⟩⟩
    rw [List.length_eq_zero_iff.1 h0]; rfl
  · refine ⟨[.slice (some ⟨g, 0, none⟩) l.length cap], rfl, Rd.list.2 ⟨hb, .inr ⟨⟨g, 0, none⟩, cap, l.map fun (i : Nat) => [Value.int .i64 (i : Int)], by rw [List.length_map], fun _ => rfl, by rw [List.length_map]; exact hc, hcm, ?_, fun _ => him g hbg (Array.getElem?_eq_some_iff.1 hg).1, ?_⟩⟩⟩
    · clear h hn hb hc htk hsz
      induction l with
      | nil => trivial
      | cons i l ih =>
        refine ⟨Rd.int.2 ⟨rfl, ?_⟩, ih fun j hj => hl j (List.mem_cons_of_mem _ hj)⟩
        have := hl i (List.mem_cons_self ..)
        rw [inKind_iff]; show -9223372036854775808 ≤ (i : Int) ∧ (i : Int) ≤ 9223372036854775807; omega
    · intro j x hj
      have hfl : (l.map fun (i : Nat) => [Value.int .i64 (i : Int)]).flatten = l.map fun (i : Nat) => Value.int .i64 (i : Int) := by
        clear h hl hn hb hc htk hsz hj
        induction l with
        | nil => rfl
        | cons i l ih => simp [ih]
      rw [hfl, ← htk] at hj
      have hj2 : cur.toList[j]? = some x := by
        rw [List.getElem?_take] at hj
        split at hj
        · exact hj
        · cases hj
      have : cur[j]? = some x := by rw [← Array.getElem?_toList]; exact hj2
      simp [World.cell?, hg, this]
theorem ok_seats_Take_of (hcn : ConOK Tryz.prog 111 c_seats_Count) (hbt : ConOK Tryz.prog 143 c_seats_bit) : ConOK Tryz.prog 116 c_seats_Take := by
  refine ⟨FnOK.of Tryz.func116 rfl (by kernel_rfl), ?_, ?_⟩
  · decide
  · intro w I x xs y hg hI hx hxy
    obtain ⟨s, n, u⟩ := x
    change Int at s; change Int at n
    match xs, hx with
    | [a, b], hx =>
      obtain ⟨⟨c1, rfl, r1⟩, ⟨c2, rfl, r2⟩, _⟩ := hx
      obtain ⟨rfl, k1⟩ := Rd.int.1 r1
      obtain ⟨rfl, k2⟩ := Rd.int.1 r2
      rw [inKind_iff] at k1 k2
      have k1 : 0 ≤ s ∧ s ≤ 18446744073709551615 := k1
      have k2 : -9223372036854775808 ≤ n ∧ n ≤ 9223372036854775807 := k2
      obtain ⟨s, rfl⟩ : ∃ m : Nat, s = (m : Int) := ⟨s.toNat, by omega⟩
      have hs : s < 18446744073709551616 := by omega
      refine Calls.mono (callsIn_wide.1 (take_in hcn hbt s hs n k2 w hg)) ?_
      rintro e W ⟨z, rfl, hb, h1, h2, h3⟩
      refine ⟨z, rfl, hb, ?_⟩
      have hy : takeW (s : Int) n = (y.1, y.2.1, y.2.2.1) := by
        have : some ((takeW (s : Int) n).1, (takeW (s : Int) n).2.1, (takeW (s : Int) n).2.2, ()) = some y := hxy
        obtain rfl := Option.some.inj this
        rfl
      obtain ⟨yl, ys, ye, yu⟩ := y
      change takeW (s : Int) n = (yl, ys, ye) at hy
      unfold takeW at hy
      have hnil : ∀ im, Rd W im (.list .i) [] [.slice none 0 0] := fun im => Rd.list.2 ⟨by simp, .inl ⟨rfl, rfl⟩⟩
      by_cases hn : n < 0
      · rw [if_pos hn] at hy
        cases hy
        rw [h1 hn]
        exact res_take rfl (hnil _) (by decide) (by decide)
      · rw [if_neg hn] at hy
        by_cases hc : 64 - cntW (s : Int) < n
        · rw [if_pos hc] at hy
          cases hy
          rw [h2 (by omega) hc]
          exact res_take rfl (hnil _) (by decide) (by decide)
        · rw [if_neg hc] at hy
          cases hy
          obtain ⟨v, rfl, hr⟩ := h3 (by omega) (by omega)
          have hl64 : ∀ i ∈ (freeL (s : Int)).take n.toNat, i < 64 := fun i hi => by
            have := List.mem_of_mem_take hi
            unfold freeL at this
            simp only [List.mem_filter, List.mem_range] at this
            exact this.1
          have hlen : ((freeL (s : Int)).take n.toNat).length ≤ 64 := by
            have h1 := freeL_len s
            have h2 := List.length_take_le n.toNat (freeL (s : Int))
            have h3 := (cntW_le (s : Int)).1
            have h4 : ((freeL (s : Int)).take n.toNat).length ≤ (freeL (s : Int)).length := by rw [List.length_take]; omega
            omega
          obtain ⟨cs, e1, e2⟩ := row_ints hr hl64 hlen (fun k => k < W.heap.size ∧ (k < w.heap.size → I k)) (fun k a b => ⟨b, fun h => absurd h (by omega)⟩)
          have := orL_lt hs _ hl64
          refine res_take e1 e2 ?_ (by decide)
          rw [inKind_iff]; show 0 ≤ ((orL s _ : Nat) : Int) ∧ ((orL s _ : Nat) : Int) ≤ 18446744073709551615
          omega
end Go.Proofs.YtghlolinkmlkeaaGreatDoor
end

section
namespace Go.Proofs.YtghlolinkmlkeaaGreatDoor
open Go Go.Co Go.Co.N Go.Proofs
theorem ok_seats_Take : ConOK Tryz.prog 116 c_seats_Take := ok_seats_Take_of ok_seats_Count ok_seats_bit
noncomputable def L_roster_Move : List (Nat × LD) := [(11, ⟨⟨[(2, .hole .i), (3, .hole .i), (4, .ptr 0 []), (5, .ptr 1 []), (8, .ptr 2 []), (13, .row (.st .seat)), (14, .nils), (49, .hole (.list .i)), (50, .hole .i), (51, .hole .i)], [(0, (.arr 64 (.st .entry)), .hole (.arr 64 (.st .entry))), (1, (.st .batch), .hole (.st .batch)), (2, (.arr 64 (.st .entry)), .hole (.arr 64 (.st .entry)))], []⟩, [(.exit 1, ⟨[(2, .hole .i), (3, .hole .i), (4, .ptr 0 []), (5, .ptr 1 []), (8, .ptr 2 []), (13, .row (.st .seat)), (14, .nils)], [(0, (.arr 64 (.st .entry)), .hole (.arr 64 (.st .entry))), (1, (.st .batch), .hole (.st .batch)), (2, (.arr 64 (.st .entry)), .hole (.arr 64 (.st .entry)))], []⟩)], 13, []⟩), (19, ⟨⟨[(2, .hole .i), (3, .hole .i), (4, .ptr 0 []), (5, .ptr 1 []), (8, .ptr 2 []), (13, .row (.st .seat)), (14, .row (.st .seat)), (78, .hole (.list .i)), (79, .hole .i), (80, .hole .i)], [(0, (.arr 64 (.st .entry)), .hole (.arr 64 (.st .entry))), (1, (.st .batch), .hole (.st .batch)), (2, (.arr 64 (.st .entry)), .hole (.arr 64 (.st .entry)))], []⟩, [(.exit 3, ⟨[(4, .ptr 0 []), (8, .ptr 2 []), (13, .row (.st .seat)), (14, .row (.st .seat))], [(0, (.arr 64 (.st .entry)), .hole (.arr 64 (.st .entry))), (2, (.arr 64 (.st .entry)), .hole (.arr 64 (.st .entry)))], []⟩)], 14, []⟩)]
noncomputable def Ls_roster_Move : List (Nat × List (Nat × LD)) := []
noncomputable def B_roster_Move : Bodies := []
theorem run_roster_Move (x : denL [(.arr 64 (.st .entry)), (.st .batch), .i, .i]) : run [(73, c_roster_Fits), (115, c_roster_names), (36, c_roster_Find), (82, c_roster_Taken), (116, c_seats_Take)] L_roster_Move Ls_roster_Move B_roster_Move Tryz.f78 [(.arr 64 (.st .entry)), (.st .batch), .i, .i] [(.arr 64 (.st .entry)), (.list (.st .seat)), (.list (.st .seat)), .i] x = g_roster_Move x := by kernel_rfl
theorem ok_roster_Move : ConOK Tryz.prog 78 c_roster_Move := con_ok (ConsOK.cons ok_roster_Fits (ConsOK.cons ok_roster_names (ConsOK.cons ok_roster_Find (ConsOK.cons ok_roster_Taken (ConsOK.cons ok_seats_Take (ConsOK.nil)))))) L_roster_Move Ls_roster_Move (B := B_roster_Move) (BodiesOK.nil) Tryz.func78 rfl fun x y hf h => (run_roster_Move x).trans (eq_roster_Move x y hf h)
noncomputable def L_plan_step : List (Nat × LD) := []
noncomputable def Ls_plan_step : List (Nat × List (Nat × LD)) := []
noncomputable def B_plan_step : Bodies := []
theorem run_plan_step (x : denL [(.st .tree), (.st .batch)]) : run [(72, c_keytree_Check), (73, c_roster_Fits), (75, c_plan_leavers), (74, c_plan_Replaced), (76, c_bits_OnesCount32), (77, c_ratchet_Turn), (78, c_roster_Move)] L_plan_step Ls_plan_step B_plan_step Tryz.f47 [(.st .tree), (.st .batch)] [(.st .tree), (.st .rekey), .i] x = g_plan_step x := by kernel_rfl
theorem ok_plan_step : ConOK Tryz.prog 47 c_plan_step := con_ok (ConsOK.cons ok_keytree_Check (ConsOK.cons ok_roster_Fits (ConsOK.cons ok_plan_leavers (ConsOK.cons ok_plan_Replaced (ConsOK.cons ok_bits_OnesCount32 (ConsOK.cons ok_ratchet_Turn (ConsOK.cons ok_roster_Move (ConsOK.nil)))))))) L_plan_step Ls_plan_step (B := B_plan_step) (BodiesOK.nil) Tryz.func47 rfl fun x y hf h => (run_plan_step x).trans (eq_plan_step x y hf h)
noncomputable def L_plan_items : List (Nat × LD) := [(8, ⟨⟨[(3, .ptr 1 []), (5, .ptr 2 []), (6, .fn 79 [0, 2]), (7, .hole (.int .u64)), (8, .hole (.int .u32)), (9, .hole .i), (10, .hole .i)], [(0, (.st .tree), .hole (.st .tree)), (1, (.st .rekey), .hole (.st .rekey)), (2, (.list (.st .item)), .row (.st .item))], []⟩, [(.exit 2, ⟨[(3, .ptr 1 []), (5, .ptr 2 []), (6, .fn 79 [0, 2]), (7, .hole (.int .u64)), (8, .hole (.int .u32)), (9, .hole .i)], [(0, (.st .tree), .hole (.st .tree)), (1, (.st .rekey), .hole (.st .rekey)), (2, (.list (.st .item)), .row (.st .item))], []⟩)], 11, []⟩), (5, ⟨⟨[(3, .ptr 1 []), (5, .ptr 2 []), (6, .fn 79 [0, 2]), (7, .hole (.int .u64)), (8, .hole (.int .u32)), (9, .hole .i)], [(0, (.st .tree), .hole (.st .tree)), (1, (.st .rekey), .hole (.st .rekey)), (2, (.list (.st .item)), .row (.st .item))], []⟩, [(.exit 0, ⟨[(3, .ptr 1 []), (5, .ptr 2 []), (6, .fn 79 [0, 2]), (8, .hole (.int .u32))], [(0, (.st .tree), .hole (.st .tree)), (1, (.st .rekey), .hole (.st .rekey)), (2, (.list (.st .item)), .row (.st .item))], []⟩)], 21, []⟩), (18, ⟨⟨[(5, .ptr 2 []), (6, .fn 79 [0, 2]), (8, .hole (.int .u32)), (13, .ptr 25 []), (54, .hole (.list (.st .seat))), (55, .hole .i), (56, .hole .i), (66, .hole (.arr 3 .i)), (67, .hole .i)], [(0, (.st .tree), .hole (.st .tree)), (2, (.list (.st .item)), .row (.st .item)), (25, (.st .seat), .hole (.st .seat))], []⟩, [(.exit 6, ⟨[(5, .ptr 2 []), (6, .fn 79 [0, 2]), (8, .hole (.int .u32)), (54, .hole (.list (.st .seat))), (55, .hole .i), (56, .hole .i)], [(0, (.st .tree), .hole (.st .tree)), (2, (.list (.st .item)), .row (.st .item))], []⟩)], 11, []⟩), (14, ⟨⟨[(5, .ptr 2 []), (6, .fn 79 [0, 2]), (8, .hole (.int .u32)), (54, .hole (.list (.st .seat))), (55, .hole .i), (56, .hole .i)], [(0, (.st .tree), .hole (.st .tree)), (2, (.list (.st .item)), .row (.st .item))], []⟩, [(.exit 4, ⟨[(5, .ptr 2 [])], [(2, (.list (.st .item)), .row (.st .item))], []⟩)], 23, []⟩)]
noncomputable def Ls_plan_items : List (Nat × List (Nat × LD)) := []
noncomputable def B_plan_items : Bodies := [bodyLine 79 Tryz.f79]
theorem run_plan_items (x : denL [(.st .tree), (.st .rekey)]) : run [(81, c_plan_nodeKey), (80, c_key_Seal), (82, c_roster_Taken), (74, c_plan_Replaced), (83, c_shape_Child), (62, c_shape_Mask), (84, c_shape_Path), (41, c_shape_Leaf)] L_plan_items Ls_plan_items B_plan_items Tryz.f48 [(.st .tree), (.st .rekey)] [(.list (.st .item))] x = g_plan_items x := by kernel_rfl
theorem ok_plan_items : ConOK Tryz.prog 48 c_plan_items := con_ok (ConsOK.cons ok_plan_nodeKey (ConsOK.cons ok_key_Seal (ConsOK.cons ok_roster_Taken (ConsOK.cons ok_plan_Replaced (ConsOK.cons ok_shape_Child (ConsOK.cons ok_shape_Mask (ConsOK.cons ok_shape_Path (ConsOK.cons ok_shape_Leaf (ConsOK.nil))))))))) L_plan_items Ls_plan_items (B := B_plan_items) (BodiesOK.cons Tryz.func79 rfl (BodiesOK.nil)) Tryz.func48 rfl fun x y hf h => (run_plan_items x).trans (eq_plan_items x y hf h)
noncomputable def L_plan_Next : List (Nat × LD) := []
noncomputable def Ls_plan_Next : List (Nat × List (Nat × LD)) := []
noncomputable def B_plan_Next : Bodies := []
theorem run_plan_Next (x : denL [(.st .tree), (.st .batch)]) : run [(47, c_plan_step), (48, c_plan_items)] L_plan_Next Ls_plan_Next B_plan_Next Tryz.f27 [(.st .tree), (.st .batch)] [(.st .tree), (.st .rekey), .i] x = g_plan_Next x := by kernel_rfl
theorem ok_plan_Next : ConOK Tryz.prog 27 c_plan_Next := con_ok (ConsOK.cons ok_plan_step (ConsOK.cons ok_plan_items (ConsOK.nil))) L_plan_Next Ls_plan_Next (B := B_plan_Next) (BodiesOK.nil) Tryz.func27 rfl fun x y hf h => (run_plan_Next x).trans (eq_plan_Next x y hf h)
end Go.Proofs.YtghlolinkmlkeaaGreatDoor
end

section
namespace Go.Proofs.YtghlolinkmlkeaaGreatDoor
open Go Go.Co Go.Co.N Go.Proofs
noncomputable def L_history_Play : List (Nat × LD) := [(5, ⟨⟨[(4, .ptr 0 []), (5, .row (.st .tree)), (6, .row .i), (18, .hole (.list (.st .batch))), (19, .hole .i), (20, .hole .i)], [(0, (.st .tree), .hole (.st .tree))], []⟩, [(.exit 0, ⟨[(5, .row (.st .tree)), (6, .row .i)], [(0, (.st .tree), .hole (.st .tree))], []⟩)], 41, [1000000, 0, 1, 2]⟩)]
noncomputable def Ls_history_Play : List (Nat × List (Nat × LD)) := []
noncomputable def B_history_Play : Bodies := []
theorem run_history_Play (x : denL [(.list (.st .batch))]) : run [(26, c_keytree_Start), (27, c_plan_Next)] L_history_Play Ls_history_Play B_history_Play Tryz.f9 [(.list (.st .batch))] [(.list (.st .tree)), (.list .i)] x = g_history_Play x := by kernel_rfl
theorem ok_history_Play : ConOK Tryz.prog 9 c_history_Play := con_ok (ConsOK.cons ok_keytree_Start (ConsOK.cons ok_plan_Next (ConsOK.nil))) L_history_Play Ls_history_Play (B := B_history_Play) (BodiesOK.nil) Tryz.func9 rfl fun x y hf h => (run_history_Play x).trans (eq_history_Play x y hf h)
noncomputable def L_history_came : List (Nat × LD) := [(4, ⟨⟨[(3, .ptr 1 []), (4, .ptr 2 []), (5, .ptr 3 []), (6, .row (.st .entry)), (13, .hole (.arr 64 (.st .entry))), (14, .hole .i)], [(1, (.st .tree), .hole (.st .tree)), (3, (.st .batch), .agv  .batch (.cons (.row .i) (.cons (.nils) (.nil))))], []⟩, [(.exit 0, ⟨[(4, .ptr 2 []), (5, .ptr 3 []), (6, .row (.st .entry))], [(1, (.st .tree), .hole (.st .tree)), (3, (.st .batch), .agv  .batch (.cons (.row .i) (.cons (.nils) (.nil))))], []⟩)], 40, [1000000, 1, 3]⟩), (15, ⟨⟨[(4, .ptr 2 []), (5, .ptr 3 []), (45, .slf 4), (46, .hole .i), (47, .hole .i)], [(3, (.st .batch), .agv  .batch (.cons (.slf 5) (.cons (.row .i) (.nil))))], [(4, .unit, (.st .entry))]⟩, [(.exit 2, ⟨[(4, .ptr 2 []), (5, .ptr 3 [])], [(3, (.st .batch), .agv  .batch (.cons (.slf 5) (.cons (.row .i) (.nil))))], [(4, .unit, (.st .entry))]⟩)], 35, [1000000, 3, 4]⟩)]
noncomputable def Ls_history_came : List (Nat × List (Nat × LD)) := []
noncomputable def B_history_came : Bodies := []
theorem run_history_came (x : denL [(.st .tree), (.st .tree)]) : run [] L_history_came Ls_history_came B_history_came Tryz.f29 [(.st .tree), (.st .tree)] [(.st .batch)] x = g_history_came x := by kernel_rfl
theorem ok_history_came : ConOK Tryz.prog 29 c_history_came := con_ok (ConsOK.nil) L_history_came Ls_history_came (B := B_history_came) (BodiesOK.nil) Tryz.func29 rfl fun x y hf h => (run_history_came x).trans (eq_history_came x y hf h)
noncomputable def L_history_Right : List (Nat × LD) := [(4, ⟨⟨[(0, .hole (.list (.st .tree))), (19, .hole (.list (.st .tree))), (20, .hole .i), (21, .hole .i)], [], []⟩, [(.ret, ⟨[(2, .hole .bool)], [], []⟩), (.exit 0, ⟨[], [], []⟩)], 33, [1000000]⟩)]
noncomputable def Ls_history_Right : List (Nat × List (Nat × LD)) := []
noncomputable def B_history_Right : Bodies := []
theorem run_history_Right (x : denL [(.list (.st .tree))]) : run [(26, c_keytree_Start), (29, c_history_came), (27, c_plan_Next)] L_history_Right Ls_history_Right B_history_Right Tryz.f13 [(.list (.st .tree))] [.bool] x = g_history_Right x := by kernel_rfl
theorem ok_history_Right : ConOK Tryz.prog 13 c_history_Right := con_ok (ConsOK.cons ok_keytree_Start (ConsOK.cons ok_history_came (ConsOK.cons ok_plan_Next (ConsOK.nil)))) L_history_Right Ls_history_Right (B := B_history_Right) (BodiesOK.nil) Tryz.func13 rfl fun x y hf h => (run_history_Right x).trans (eq_history_Right x y hf h)
noncomputable def L_history_On : List (Nat × LD) := [(4, ⟨⟨[(1, .hole .i), (28, .hole (.list (.st .tree))), (29, .hole .i), (30, .hole .i)], [], []⟩, [(.ret, ⟨[(8, .hole .bool)], [], []⟩), (.exit 0, ⟨[], [], []⟩)], 31, [1000000]⟩)]
noncomputable def Ls_history_On : List (Nat × List (Nat × LD)) := []
noncomputable def B_history_On : Bodies := []
theorem run_history_On (x : denL [(.list (.st .tree)), .i, .i, .i]) : run [(36, c_roster_Find)] L_history_On Ls_history_On B_history_On Tryz.f19 [(.list (.st .tree)), .i, .i, .i] [.bool] x = g_history_On x := by kernel_rfl
theorem ok_history_On : ConOK Tryz.prog 19 c_history_On := con_ok (ConsOK.cons ok_roster_Find (ConsOK.nil)) L_history_On Ls_history_On (B := B_history_On) (BodiesOK.nil) Tryz.func19 rfl fun x y hf h => (run_history_On x).trans (eq_history_On x y hf h)
noncomputable def L_history_Excused : List (Nat × LD) := []
noncomputable def Ls_history_Excused : List (Nat × List (Nat × LD)) := [(60, [(2, ⟨⟨[(0, .hole (.list (.st .reveal))), (1, .fn 39 [0, 1, 2]), (7, .hole .i), (8, .hole .i)], [(0, (.list (.st .tree)), .hole (.list (.st .tree))), (1, .i, .hole .i), (2, .i, .hole .i)], []⟩, [(.ret, ⟨[(4, .hole .i)], [(0, (.list (.st .tree)), .hole (.list (.st .tree))), (1, .i, .hole .i), (2, .i, .hole .i)], []⟩), (.exit 0, ⟨[], [(0, (.list (.st .tree)), .hole (.list (.st .tree))), (1, .i, .hole .i), (2, .i, .hole .i)], []⟩)], 31, [1000000, 0, 1, 2]⟩)])]
noncomputable def B_history_Excused : Bodies := [bodyLine 39 Tryz.f39, bodyLine 38 Tryz.f38, bodyLine 60 Tryz.f60]
theorem run_history_Excused (x : denL [(.list (.st .tree)), (.list (.st .reveal)), .i, .i]) : run [(19, c_history_On), (36, c_roster_Find), (41, c_shape_Leaf), (40, c_shape_Below)] L_history_Excused Ls_history_Excused B_history_Excused Tryz.f21 [(.list (.st .tree)), (.list (.st .reveal)), .i, .i] [.bool] x = g_history_Excused x := by kernel_rfl
theorem ok_history_Excused : ConOK Tryz.prog 21 c_history_Excused := con_ok (ConsOK.cons ok_history_On (ConsOK.cons ok_roster_Find (ConsOK.cons ok_shape_Leaf (ConsOK.cons ok_shape_Below (ConsOK.nil))))) L_history_Excused Ls_history_Excused (B := B_history_Excused) (BodiesOK.cons Tryz.func39 rfl (BodiesOK.cons Tryz.func38 rfl (BodiesOK.cons Tryz.func60 rfl (BodiesOK.nil)))) Tryz.func21 rfl fun x y hf h => (run_history_Excused x).trans (eq_history_Excused x y hf h)
noncomputable def L_ref12_RowPlay : List (Nat × LD) := [(4, ⟨⟨[(4, .row (.st .tree)), (5, .row .i), (14, .hole (.list (.st .batch))), (15, .hole .i), (16, .hole .i)], [], []⟩, [(.exit 0, ⟨[(4, .row (.st .tree)), (5, .row .i)], [], []⟩)], 40, [1000000, 0]⟩)]
noncomputable def Ls_ref12_RowPlay : List (Nat × List (Nat × LD)) := []
noncomputable def B_ref12_RowPlay : Bodies := []
theorem run_ref12_RowPlay (x : denL [(.list (.st .batch))]) : run [(49, c_ref11_Start), (43, c_ref11_Next)] L_ref12_RowPlay Ls_ref12_RowPlay B_ref12_RowPlay Tryz.f28 [(.list (.st .batch))] [(.list (.st .tree)), (.list .i)] x = g_ref12_RowPlay x := by kernel_rfl
theorem ok_ref12_RowPlay : ConOK Tryz.prog 28 c_ref12_RowPlay := con_ok (ConsOK.cons ok_ref11_Start (ConsOK.cons ok_ref11_Next (ConsOK.nil))) L_ref12_RowPlay Ls_ref12_RowPlay (B := B_ref12_RowPlay) (BodiesOK.nil) Tryz.func28 rfl fun x y hf h => (run_ref12_RowPlay x).trans (eq_ref12_RowPlay x y hf h)
noncomputable def L_ref22_Play : List (Nat × LD) := []
noncomputable def Ls_ref22_Play : List (Nat × List (Nat × LD)) := []
noncomputable def B_ref22_Play : Bodies := []
theorem run_ref22_Play (x : denL [(.list (.st .batch))]) : run [(28, c_ref12_RowPlay)] L_ref22_Play Ls_ref22_Play B_ref22_Play Tryz.f10 [(.list (.st .batch))] [(.list (.st .tree)), (.list .i)] x = g_ref22_Play x := by kernel_rfl
theorem ok_ref22_Play : ConOK Tryz.prog 10 c_ref22_Play := con_ok (ConsOK.cons ok_ref12_RowPlay (ConsOK.nil)) L_ref22_Play Ls_ref22_Play (B := B_ref22_Play) (BodiesOK.nil) Tryz.func10 rfl fun x y hf h => (run_ref22_Play x).trans (eq_ref22_Play x y hf h)
end Go.Proofs.YtghlolinkmlkeaaGreatDoor
end

section
namespace Go.Proofs.YtghlolinkmlkeaaGreatDoor
open Go Go.Co Go.Co.N Go.Proofs
end Go.Proofs.YtghlolinkmlkeaaGreatDoor
end

section
namespace Go.Proofs.YtghlolinkmlkeaaGreatDoor
open Go Go.Co Go.Co.N Go.Proofs

/-! ### The piece -/
noncomputable def bornLs : List (Nat × List (Nat × LD)) := [(31, [(8, ⟨⟨[(3, .mp 5), (21, .hole (.arr 64 (.st .entry))), (22, .hole .i)], [], [(5, .i, .i)]⟩, [(.exit 2, ⟨[(3, .mp 5)], [], [(5, .i, .i)]⟩)], 11, [1000000, 5]⟩), (3, ⟨⟨[(1, .ptr 4 []), (3, .mp 5), (10, .hole (.arr 21 (.st .key))), (11, .hole .i)], [(4, (.st .tree), .hole (.st .tree))], [(5, .i, .i)]⟩, [(.exit 0, ⟨[(1, .ptr 4 []), (3, .mp 5)], [(4, (.st .tree), .hole (.st .tree))], [(5, .i, .i)]⟩)], 11, [1000000, 4, 5]⟩)])]
noncomputable def bornL : List (Nat × LD) := [(6, ⟨⟨[(3, .row (.st .reveal)), (4, .omp .i .i), (14, .hole (.list (.st .tree))), (15, .hole .i), (16, .hole .i)], [], []⟩, [(.exit 0, ⟨[(3, .row (.st .reveal))], [], []⟩)], 80, []⟩)]
noncomputable def bornB : Bodies := [bodyLine 31 Tryz.f31]
noncomputable abbrev bornE0 : EE := EF [(13, c_history_Right)] [] bornLs bornB 4 bornL
noncomputable def bornE : EE := { bornE0 with sp := fun i => match Nat.beq i 10 with | true => some bornH | false => Option.none }
noncomputable def pieceB : Code := (hits 10 (body Tryz.f16)).headD .skip
noncomputable def rB (i : Nat) : Array Oper := regOps i pieceB
noncomputable def oB (i j : Nat) : Oper := (rB i).getD j default
noncomputable def restB : Code := .seq (.region 13 (rB 13) false) (.cond (.tmp 34) (.region 14 (rB 14) false) .skip)
noncomputable def endB : Code := .seq (.region 15 (rB 15) false) (.region 16 (rB 16) false)
noncomputable def loopB : Code := .seq (.region 10 (rB 10) false) (.block 2 (.loop (.seq (.region 11 (rB 11) false) (.seq (.cond (.tmp 28) .skip (.exit 2)) (.block 3 (.seq (.region 12 (rB 12) false) restB))))))
theorem piece_eq : hits 10 (body Tryz.f16) = [.seq loopB endB] := by kernel_rfl
theorem ops10 : (rB 10).toList = [oB 10 0, oB 10 1] := by kernel_rfl
theorem ops11 : (rB 11).toList = [oB 11 0, oB 11 1] := by kernel_rfl
theorem ops12 : (rB 12).toList = [oB 12 0, oB 12 1, oB 12 2] := by kernel_rfl
theorem hgsB : ∀ o ∈ [oB 10 0, oB 10 1, oB 11 0, oB 11 1, oB 12 0, oB 12 1, oB 12 2], o.guard = Option.none := by
  have h : [oB 10 0, oB 10 1, oB 11 0, oB 11 1, oB 12 0, oB 12 1, oB 12 2].all (fun o => o.guard.isNone) = true := by kernel_rfl
  intro o ho
  have := List.all_eq_true.1 h o ho
  simpa using this
theorem round_run (lw : List (Int × Int)) (i fr : Int) (ts : List Co.Tree) (len idx : Int) (xs : List Co.Reveal) (x : Int × Int) :
    evC bornE0 48 restB bornD.den ⟨putD (putD (mkD bornD 30 31 ((xs, (), i, (), fr, ts, len, idx, (), ()), (), lw, ())).slots (some 30) (.val .i x.1)) (some 9) (.val .i x.1), (mkD bornD 30 31 ((xs, (), i, (), fr, ts, len, idx, (), ()), (), lw, ())).mem, 31⟩ (rngK bornD 30 29) = born_round lw i fr ts len idx xs x := by kernel_rfl
theorem end_run (ln lw : List (Int × Int)) (i fr : Int) (ts : List Co.Tree) (len idx : Int) (xs : List Co.Reveal) (xs0 : List Co.Reveal) :
    evC bornE0 48 endB bornO.den (keepS (fun x => Nat.beq x 5) (mkD bornI 28 29 ((xs0, (), i, (), fr, ts, len, idx, ()), (), lw, ln, ())).mem (mkD bornD 30 31 ((xs, (), i, (), fr, ts, len, idx, (), ()), (), lw, ()))) (rngO 60) = born_end ln fr ts len idx xs := by kernel_rfl
theorem start_run (ln lw : List (Int × Int)) (i fr : Int) (ts : List Co.Tree) (len idx : Int) (xs : List Co.Reveal) :
    rdD bornD 30 ⟨putD (putD (mkD bornI 28 29 ((xs, (), i, (), fr, ts, len, idx, ()), (), lw, ln, ())).slots (some 25) (.mp 5)) (some 26) (.ptr 29 []), (dropS (fun x => Nat.beq x 5) (mkD bornI 28 29 ((xs, (), i, (), fr, ts, len, idx, ()), (), lw, ln, ()))).mem, 30⟩ = some ((xs, (), i, (), fr, ts, len, idx, (), ()), (), lw, ()) := by kernel_rfl
theorem piece_ok {C : Ctx} (hP : C.P = Tryz.prog) (hc : ConOK Tryz.prog 13 c_history_Right) : ∀ p ∈ hits 10 (body Tryz.f16), ∀ R s K y, bornH R s K = some y → ∃ s', Tri Tryz.prog C 48 p s .normal s' ∧ K s' = some y := by
  intro p hp R s K y hs
  rw [piece_eq, List.mem_singleton] at hp
  subst hp
  obtain ⟨hnx, xs, i, fr, ts, len, idx, lw, ln, hrd, hfr, hb1, hk⟩ := bornH_some hs
  have hE : EOK Tryz.prog C bornE0 := EF_ok (ConsOK.cons hc ConsOK.nil) bornLs (BodiesOK.cons Tryz.func31 rfl BodiesOK.nil) C hP 4 bornL
  have hlp : LpOK Tryz.prog C 48 bornE0 := lpM_ok (EF_lp bornLs bornB 4 bornL)
  have h0 : ∀ q, bornE0.sp q = Option.none := EF_sp bornLs bornB 4 bornL
  refine ⟨_, ⟨by rw [hnx]; show 28 ≤ 60; omega, fun U e a Q hu hf hq => ?_⟩, hk⟩
  rw [hnx] at hu
  have hu : free U 28 60 := hu
  obtain ⟨e1, hw1, hx1, hfr1, hf1⟩ := refit hf (U0 := U) (fun x h => .inl h) hf.mem.nx (fun x h1 h2 => hu x h1 (by have : bornI.rows = 1 := rfl; omega)) (Ext.refl e) (Frm.refl e _) hrd 29
  rw [← hw1]
  have hrI : bornI.rows = 1 := rfl
  have hrD : bornD.rows = 1 := rfl
  refine wp_seq (range_wp (P := Tryz.prog) (C := C) (n := 48) (r10 := rB 10) (r11 := rB 11) (r12 := rB 12) (i10 := 10) (i11 := 11) (i12 := 12) (j := 2) (k := 3) (dm := 7) (d25 := 25) (d26 := 26) (d27 := 27) (d28 := 28) (d29 := 29) (d30 := 30) (d9 := 9) (tm := 73) (rest := restB) (kid := 3) (eid := 3)
    ops10 ops11 ops12 hgsB (by kernel_rfl) (by kernel_rfl) (by kernel_rfl) (by kernel_rfl) (by kernel_rfl) (by kernel_rfl) (by kernel_rfl) (by kernel_rfl) (by kernel_rfl) (by kernel_rfl) (by kernel_rfl) (by kernel_rfl) (by kernel_rfl) (by kernel_rfl)
    ⟨by omega, by omega, by omega, by omega, by omega, by omega, by omega⟩ ⟨by omega, by omega⟩ Tryz.underlying73
    (D := bornD) (s := mkD bornI 28 29 ((xs, (), i, (), fr, ts, len, idx, ()), (), lw, ln, ())) (b := 5) (room := 29) (kt := .i) (vt := .i) (l := ln) (fun done => ((xs ++ pickB22 lw i done, (), i, (), fr, ts, len, idx, (), ()), (), lw, ()))
    rfl rfl ((start_run ln lw i fr ts len idx xs).trans (by simp [pickB22]; rfl)) (evC_ok hE rfl hlp h0 restB) ?_ (fun y => ⟨rfl, rfl, rfl⟩) (fun y => rfl) (by rw [hrD]; omega) (U := taken U 28 (28 + bornI.rows)) (e := e1) (a := a) ?_ hf1 ?_)
  · intro done x hperm
    exact (round_run lw i fr ts len idx (xs ++ pickB22 lw i done) x).trans (born_round_ok hperm hb1)
  · intro x h1 h2 h3
    have h1 : 29 ≤ x := h1
    have h2 : x < 59 := h2
    rcases h3 with h3 | h3
    · exact hu x (by omega) (by omega) h3
    · rw [hrI] at h3; omega
  · intro π e2 a2 hπ hf2 hx2 hfr2
    have hend := end_run ln lw i fr ts len idx (xs ++ pickB22 lw i π) xs
    rw [born_end_ok hπ hfr] at hend
    obtain ⟨r, s2, ht, hk⟩ := evC_ok hE rfl hlp h0 endB _ _ _ _ hend
    obtain ⟨rfl, hnx2, hrd2⟩ := rngO_some hk
    have hle2 : 31 ≤ s2.nx := ht.1
    refine ht.2 _ e2 a2 _ (fun x h1 h2 h3 => ?_) hf2 fun e3 a3 q1 q2 q3 => ?_
    · have h1 : 31 ≤ x := h1
      rcases h3 with (h3 | h3) | h3
      · exact hu x (by omega) (by omega) h3
      · rw [hrI] at h3; omega
      · have : x < 29 + 1 + 1 := h3.2
        omega
    · obtain ⟨e4, p1, p2, p3, p4⟩ := refit q1 (U0 := U) (fun x hx => by
        rcases hx with ((hx | hx) | hx) | hx
        · exact .inl hx
        · exact .inr hx.1
        · have : 29 ≤ x := hx.1
          exact .inr (by omega)
        · have : 31 ≤ x := hx.1
          exact .inr (by omega)) hf.mem.nx (fun x h1 h2 => hu x h1 (by have : bornO.rows = 2 := rfl; omega)) (hx1.trans (hx2.trans q2)) (hfr1.trans (hfr2.trans q3)) hrd2 60
      have hw := hq e4 a3 (p4.widen fun x hx => by
        rcases hx with hx | hx
        · exact .inl hx
        · refine .inr ⟨by rw [hnx]; exact hx.1, ?_⟩
          have : bornO.rows = 2 := rfl
          show x < 60
          omega) p2 p3
      rw [p1] at hw
      exact hw
end Go.Proofs.YtghlolinkmlkeaaGreatDoor
end

section
namespace Go.Proofs.YtghlolinkmlkeaaGreatDoor
open Go Go.Co Go.Co.N Go.Proofs
theorem run_history_Born (x : denL [(.list (.st .tree))]) : evF bornE Tryz.f16 (body Tryz.f16) [(.list (.st .tree))] x (retK T Tryz.f16.results.toList [(.list (.st .reveal))]) = g_history_Born x := by kernel_rfl
theorem ok_history_Born : ConOK Tryz.prog 16 c_history_Born := by
  have hs : shapeOK Tryz.f16 c_history_Born = true := by kernel_rfl
  simp only [shapeOK, Bool.and_eq_true, Bool.not_eq_true'] at hs
  obtain ⟨⟨⟨⟨h1, h2⟩, h3⟩, h4⟩, h5⟩ := hs
  obtain ⟨b, hb⟩ := Option.isSome_iff_exists.1 h1
  have hbb : body Tryz.f16 = b := by unfold body; rw [hb]
  refine con_of Tryz.func16 hb h2 (E := bornE) (fun C hP => ?_) (fun C _ => lpM_ok (show bornE.lp = lpM bornL from EF_lp (con := [(13, c_history_Right)]) (fr := []) bornLs bornB 4 bornL)) (fun C hP => SpOK.hits (id := 10) (h := bornH) rfl b (by have := piece_ok hP ok_history_Right; rwa [hbb] at this)) rfl h3 h4 h5 fun x y hf hxy => ?_
  · have h : EOK Tryz.prog C bornE0 := EF_ok (ConsOK.cons ok_history_Right ConsOK.nil) bornLs (BodiesOK.cons Tryz.func31 rfl BodiesOK.nil) C hP 4 bornL
    exact ⟨h.1, h.2, h.3, h.4, h.5⟩
  · have := (run_history_Born x).trans (eq_history_Born x y hf hxy)
    rwa [hbb] at this
end Go.Proofs.YtghlolinkmlkeaaGreatDoor
end

section
namespace Go.Proofs.YtghlolinkmlkeaaGreatDoor
open Go Go.Co Go.Co.N Go.Proofs
noncomputable def L_law22_lives : List (Nat × LD) := []
noncomputable def Ls_law22_lives : List (Nat × List (Nat × LD)) := []
noncomputable def B_law22_lives : Bodies := []
theorem run_law22_lives (x : denL []) : run [(9, c_history_Play), (13, c_history_Right), (19, c_history_On), (21, c_history_Excused), (16, c_history_Born)] L_law22_lives Ls_law22_lives B_law22_lives Tryz.f8 [] [.bool] x = g_law22_lives x := by kernel_rfl
theorem ok_law22_lives : ConOK Tryz.prog 8 c_law22_lives := con_ok (ConsOK.cons ok_history_Play (ConsOK.cons ok_history_Right (ConsOK.cons ok_history_On (ConsOK.cons ok_history_Excused (ConsOK.cons ok_history_Born (ConsOK.nil)))))) L_law22_lives Ls_law22_lives (B := B_law22_lives) (BodiesOK.nil) Tryz.func8 rfl fun x y hf h => (run_law22_lives x).trans (eq_law22_lives x y hf h)
noncomputable def L_law22_HistoryReplaced : List (Nat × LD) := [(15, ⟨⟨[(3, .hole (.list (.st .tree))), (4, .hole (.list .i)), (5, .hole .i), (9, .ptr 2 []), (11, .hole .i), (19, .hole (.list (.st .batch))), (20, .hole .i), (21, .hole .i)], [(2, (.st .rekey), .hole (.st .rekey))], []⟩, [(.ret, ⟨[(2, .hole .bool)], [], []⟩), (.exit 2, ⟨[(3, .hole (.list (.st .tree))), (4, .hole (.list .i)), (5, .hole .i), (19, .hole (.list (.st .batch))), (20, .hole .i), (21, .hole .i)], [], []⟩)], 10, []⟩), (6, ⟨⟨[(3, .hole (.list (.st .tree))), (4, .hole (.list .i)), (5, .hole .i), (19, .hole (.list (.st .batch))), (20, .hole .i), (21, .hole .i)], [], []⟩, [(.ret, ⟨[(2, .hole .bool)], [], []⟩), (.exit 0, ⟨[(3, .hole (.list (.st .tree))), (5, .hole .i)], [], []⟩)], 23, []⟩)]
noncomputable def Ls_law22_HistoryReplaced : List (Nat × List (Nat × LD)) := []
noncomputable def B_law22_HistoryReplaced : Bodies := []
theorem run_law22_HistoryReplaced (x : denL [(.list (.st .batch))]) : run [(8, c_law22_lives), (9, c_history_Play), (23, c_ref12_Next), (25, c_ref12_Replaced), (24, c_ref01_In)] L_law22_HistoryReplaced Ls_law22_HistoryReplaced B_law22_HistoryReplaced Tryz.f7 [(.list (.st .batch))] [.bool] x = g_law22_HistoryReplaced x := by kernel_rfl
theorem ok_law22_HistoryReplaced : ConOK Tryz.prog 7 c_law22_HistoryReplaced := con_ok (ConsOK.cons ok_law22_lives (ConsOK.cons ok_history_Play (ConsOK.cons ok_ref12_Next (ConsOK.cons ok_ref12_Replaced (ConsOK.cons ok_ref01_In (ConsOK.nil)))))) L_law22_HistoryReplaced Ls_law22_HistoryReplaced (B := B_law22_HistoryReplaced) (BodiesOK.nil) Tryz.func7 rfl fun x y hf h => (run_law22_HistoryReplaced x).trans (eq_law22_HistoryReplaced x y hf h)
noncomputable def L_law22_HistoryExcuses : List (Nat × LD) := [(8, ⟨⟨[(1, .hole (.list (.st .reveal))), (5, .hole (.list (.st .tree))), (7, .hole .i), (8, .hole .i)], [], []⟩, [(.ret, ⟨[(4, .hole .bool)], [], []⟩), (.exit 2, ⟨[(1, .hole (.list (.st .reveal))), (5, .hole (.list (.st .tree))), (7, .hole .i)], [], []⟩)], 10, []⟩), (5, ⟨⟨[(1, .hole (.list (.st .reveal))), (5, .hole (.list (.st .tree))), (7, .hole .i)], [], []⟩, [(.ret, ⟨[(4, .hole .bool)], [], []⟩), (.exit 0, ⟨[], [], []⟩)], 20, []⟩)]
noncomputable def Ls_law22_HistoryExcuses : List (Nat × List (Nat × LD)) := []
noncomputable def B_law22_HistoryExcuses : Bodies := []
theorem run_law22_HistoryExcuses (x : denL [(.list (.st .batch)), (.list (.st .reveal))]) : run [(8, c_law22_lives), (10, c_ref22_Play), (21, c_history_Excused)] L_law22_HistoryExcuses Ls_law22_HistoryExcuses B_law22_HistoryExcuses Tryz.f6 [(.list (.st .batch)), (.list (.st .reveal))] [.bool] x = g_law22_HistoryExcuses x := by kernel_rfl
theorem ok_law22_HistoryExcuses : ConOK Tryz.prog 6 c_law22_HistoryExcuses := con_ok (ConsOK.cons ok_law22_lives (ConsOK.cons ok_ref22_Play (ConsOK.cons ok_history_Excused (ConsOK.nil)))) L_law22_HistoryExcuses Ls_law22_HistoryExcuses (B := B_law22_HistoryExcuses) (BodiesOK.nil) Tryz.func6 rfl fun x y hf h => (run_law22_HistoryExcuses x).trans (eq_law22_HistoryExcuses x y hf h)
end Go.Proofs.YtghlolinkmlkeaaGreatDoor
end
