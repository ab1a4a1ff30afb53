/-
  Names that begin in a tree: those from the Fresh before to its own.
  What the laws of chapter 22 are to answer.
  What each function computes, printed by a program of my own (wip/tool) out of its run.
  Laws of rows of trees: names, fronts, one way.
  What the document's functions of rows of trees are to answer.
  What each function computes, printed by a program of my own (wip/tool) out of its run.
  The document's functions of rows of trees: what they compute.
  The document's Born: what it computes.
  What each function computes, printed by a program of my own (wip/tool) out of its run.
  What each function computes, printed by a program of my own (wip/tool) out of its run.
  Laws of rows of trees: what is replaced, what is excused.
  Laws of rows of trees: plays; its lists are new memory.
  The program computes so: printed by a program of my own (wip/tool).
  A range over an iterator that keeps a box of its own: what the loop's body must keep.
  The n least free slots: the program's function that ranges over an iterator of its own.
  The program computes so: printed by a program of my own (wip/tool).
  The program computes so: printed by a program of my own (wip/tool).
  No conditions. Own text, for the claims about coterie.
-/
import Derived.RangeFuncMany
import Derived.RangeFuncBox
import Derived.OwnWalkIn
import Derived.RangeFuncKeeps
import Derived.RangeFuncLeaves
import Derived.RangeFuncCalls
import Derived.Shelf.Abstract
import Derived.WalkKit
import Derived.TacticsInMore
import Derived.LoopNIn
import Derived.LoopIn
import Derived.Maps.AppendAt
import Derived.RegionIn
import Derived.Shelf.RegionOpen
import Derived.Test.YtghlolinkmlkeaaGreatDoorPartE

section
namespace Go.Co.N
open Go Go.Co Go.Proofs Go.Sort

/-! ### Names of a tree -/
def hasN (t : Tree) (n : Int) : Prop := (∃ v : Nat, v < 21 ∧ bas t.Keys v = n) ∨ (∃ s : Nat, s < 64 ∧ isOn t.Roster s = true ∧ (ent t.Roster s).Base = n)
theorem hasN_lt {t : Tree} {n : Int} (hg : goodTree t = true) (h : hasN t n) : n < t.Fresh := by
  obtain ⟨_, _, _, _, _, _, hk, hs⟩ := goodTree_iff.1 hg
  rcases h with ⟨v, hv, rfl⟩ | ⟨s, hs2, _, rfl⟩
  · exact (hk v hv).1
  · exact (hs s hs2).1
theorem cntTo_at (m : Int) : ∀ (N : Nat) (x : Int), 0 ≤ x → x < cntTo m N → ∃ v : Nat, v < N ∧ inB m v = true ∧ cntTo m v = x
  | 0, x, h0, h1 => by simp only [cntTo] at h1; omega
  | N + 1, x, h0, h1 => by
    cases hb : inB m (N : Int) with
    | false =>
      rw [cntTo_out hb] at h1
      obtain ⟨v, a, b, c⟩ := cntTo_at m N x h0 h1
      exact ⟨v, by omega, b, c⟩
    | true =>
      rw [cntTo_in hb] at h1
      by_cases hx : x < cntTo m N
      · obtain ⟨v, a, b, c⟩ := cntTo_at m N x h0 hx
        exact ⟨v, by omega, b, c⟩
      · exact ⟨N, by omega, hb, by omega⟩
theorem hasN_next {t : Tree} {b : Batch} (h : (nextT t b).e = 0) (n : Int) : (hasN (nextT t b).t n ∧ ¬ hasN t n) ↔ (t.Fresh ≤ n ∧ n < (nextT t b).t.Fresh) := by
  have hg := (nextT_ok h).1
  have hg2 := nx_good h
  obtain ⟨hk, hk1, hk2, hk3, hk4⟩ := nx_turn h
  have hfe := nx_fresh h
  have hc := cntTo_le (replaced (nextT t b).left) 21
  constructor
  · rintro ⟨h1, h2⟩
    refine ⟨?_, hasN_lt hg2 h1⟩
    rcases h1 with ⟨v, hv, rfl⟩ | ⟨s, hs, hon, rfl⟩
    · rw [hk, bas, turned_get _ _ _ v hv] at h2 ⊢
      by_cases hin : inB (replaced (nextT t b).left) v = true
      · exact (fresh_bounds (k := t.Keys) hk3 hv hin).1
      · rw [kept_at hin] at h2
        exact absurd (.inl ⟨v, hv, rfl⟩) h2
    · rcases nx_seat h s hs with ⟨x, hx, hxs⟩ | ⟨_, ⟨_, _, hz⟩ | ⟨_, he⟩⟩
      · obtain ⟨k, hk', h3, h4, h5⟩ := nx_new h hx
        have : k = s := by omega
        subst this
        exact h5
      · rw [isOn_iff, hz] at hon
        exact absurd rfl hon
      · rw [he] at h2
        refine absurd (.inr ⟨s, hs, ?_, rfl⟩) h2
        rw [isOn_iff] at hon ⊢
        rwa [he] at hon
  · rintro ⟨h1, h2⟩
    refine ⟨?_, fun hh => by have := hasN_lt hg hh; omega⟩
    by_cases hn : n < t.Fresh + cntTo (replaced (nextT t b).left) 21
    · obtain ⟨v, hv, hin, hcv⟩ := cntTo_at (replaced (nextT t b).left) 21 (t.Fresh + cntTo (replaced (nextT t b).left) 21 - 1 - n) (by omega) (by omega)
      refine .inl ⟨v, hv, ?_⟩
      rw [hk, bas, turned_get _ _ _ v hv, turnedAt, if_pos hin]
      show t.Fresh + (cntTo (replaced (nextT t b).left) 21 - cntTo (replaced (nextT t b).left) (v + 1)) = n
      rw [cntTo_in hin, hcv]
      omega
    · obtain ⟨i, hi⟩ : ∃ i : Nat, n = t.Fresh + cntTo (replaced (nextT t b).left) 21 + i := ⟨(n - (t.Fresh + cntTo (replaced (nextT t b).left) 21)).toNat, by omega⟩
      have hil : i < b.Joins.length := by omega
      obtain ⟨s, hs, _, he, _⟩ := (nx_moved h).1 i b.Joins[i] (List.getElem?_eq_getElem hil)
      have h22 := (nx_room h).2.1
      refine .inr ⟨s, hs, isOn_iff.2 ?_, ?_⟩
      · rw [he]; simp only; omega
      · rw [he]; simp only; omega
theorem hasN_start (n : Int) : hasN startT n ↔ (1 ≤ n ∧ n < 22) := by
  have hk : ∀ v : Nat, v < 21 → bas startT.Keys v = (v : Int) + 1 := fun v hv => by
    unfold bas startT
    simp only
    rw [get_make _ _ (by omega) (by omega)]
    simp
  constructor
  · rintro (⟨v, hv, rfl⟩ | ⟨s, hs, hon, rfl⟩)
    · rw [hk v hv]; omega
    · rw [isOn_iff] at hon
      exact absurd (by unfold ent startT; simp only; rw [get_rep _ _ (by omega) (by omega)]; rfl) hon
  · rintro ⟨h1, h2⟩
    exact .inl ⟨(n - 1).toNat, by omega, by rw [hk _ (by omega)]; omega⟩

/-! ### The map of names -/
def keysM (t : Tree) : Nat → List (Int × Int)
  | 0 => []
  | v + 1 => seeI (keysM t v) (bas t.Keys v)
def rostM (t : Tree) : Nat → List (Int × Int)
  | 0 => keysM t 21
  | s + 1 => bif !decide ((ent t.Roster s).Base = 0) then seeI (rostM t s) (ent t.Roster s).Base else rostM t s
theorem mget_none_iff {h : List (Int × Int)} {b : Int} : mget h b = none ↔ b ∉ h.map (·.1) := by
  induction h with
  | nil => simp [mget]
  | cons e l ih =>
    rw [mget_cons, List.map_cons, List.mem_cons]
    by_cases he : e.1 = b
    · rw [if_pos he]; simp [he]
    · rw [if_neg he, ih]
      exact ⟨fun h1 h2 => h2.elim (fun h3 => he h3.symm) h1, fun h1 h2 => h1 (.inr h2)⟩
theorem mput_keys (x c : Int) : ∀ h : List (Int × Int), (∀ b, b ∈ (mput h x c).map (·.1) ↔ b = x ∨ b ∈ h.map (·.1)) ∧ ((h.map (·.1)).Nodup → ((mput h x c).map (·.1)).Nodup) ∧ (mput h x c).length ≤ h.length + 1
  | [] => by simp [mput]
  | e :: l => by
    obtain ⟨i1, i2, i3⟩ := mput_keys x c l
    simp only [mput]
    by_cases he : e.1 = x
    · rw [if_pos he]
      refine ⟨fun b => ?_, fun hn => ?_, by simp⟩
      · simp only [List.map_cons, List.mem_cons, he]
        exact ⟨fun h => h.elim .inl fun h => .inr (.inr h), fun h => h.elim .inl fun h => h⟩
      · simpa only [List.map_cons, he] using hn
    · rw [if_neg he]
      refine ⟨fun b => ?_, fun hn => ?_, by simp only [List.length_cons]; omega⟩
      · simp only [List.map_cons, List.mem_cons, i1]
        exact ⟨fun h => h.elim (fun h => .inr (.inl h)) fun h => h.elim .inl fun h => .inr (.inr h), fun h => h.elim (fun h => .inr (.inl h)) fun h => h.elim .inl fun h => .inr (.inr h)⟩
      · simp only [List.map_cons, List.nodup_cons, i1] at hn ⊢
        exact ⟨fun hm => hm.elim he hn.1, i2 hn.2⟩
/-- A map that counts at most k. -/
def Cnt (k : Nat) (h : List (Int × Int)) : Prop := (h.map (·.1)).Nodup ∧ h.length ≤ k ∧ ∀ b c, mget h b = some c → 1 ≤ c ∧ c ≤ k
theorem Cnt.nil : Cnt 0 [] := ⟨List.nodup_nil, Nat.le_refl _, fun b c h => by simp [mget] at h⟩
theorem Cnt.up {k : Nat} {h : List (Int × Int)} (hc : Cnt k h) : Cnt (k + 1) h := ⟨hc.1, by have := hc.2.1; omega, fun b c hb => by have := hc.2.2 b c hb; omega⟩
theorem Cnt.see {k : Nat} {h : List (Int × Int)} (hc : Cnt k h) (hk : k < 1000000) (x : Int) : Cnt (k + 1) (seeI h x) := by
  obtain ⟨i1, i2, i3⟩ := mput_keys x (IntKind.wrap IntKind.i64 (Option.getD (mget h x) 0 + 1)) h
  refine ⟨i2 hc.1, by have := hc.2.1; show (mput _ _ _).length ≤ _; omega, fun b c hb => ?_⟩
  unfold seeI at hb
  rw [mget_mput] at hb
  by_cases hx : x = b
  · rw [if_pos hx] at hb
    have hb := Option.some.inj hb
    cases hm : mget h x with
    | none => rw [hm] at hb; simp only [Option.getD_none] at hb; rw [i64_in _ (by omega)] at hb; omega
    | some d =>
      have := hc.2.2 x d hm
      rw [hm] at hb; simp only [Option.getD_some] at hb; rw [i64_in _ (by omega)] at hb; omega
  · rw [if_neg hx] at hb
    have := hc.2.2 b c hb
    omega
theorem see_keys (h : List (Int × Int)) (x b : Int) : b ∈ (seeI h x).map (·.1) ↔ b = x ∨ b ∈ h.map (·.1) := (mput_keys _ _ h).1 b
theorem keysM_cnt (t : Tree) : ∀ v : Nat, v ≤ 21 → Cnt v (keysM t v) ∧ ∀ b, b ∈ (keysM t v).map (·.1) ↔ ∃ w : Nat, w < v ∧ bas t.Keys w = b
  | 0, _ => ⟨Cnt.nil, fun b => ⟨fun h => by simp [keysM] at h, fun ⟨w, hw, _⟩ => by omega⟩⟩
  | v + 1, hv => by
    obtain ⟨i1, i2⟩ := keysM_cnt t v (by omega)
    refine ⟨i1.see (by omega) _, fun b => ?_⟩
    show b ∈ (seeI (keysM t v) (bas t.Keys v)).map (·.1) ↔ _
    rw [see_keys, i2]
    constructor
    · rintro (rfl | ⟨w, hw, rfl⟩)
      · exact ⟨v, by omega, rfl⟩
      · exact ⟨w, by omega, rfl⟩
    · rintro ⟨w, hw, rfl⟩
      by_cases he : w = v
      · subst he; exact .inl rfl
      · exact .inr ⟨w, by omega, rfl⟩
theorem rostM_cnt (t : Tree) : ∀ s : Nat, s ≤ 64 → Cnt (21 + s) (rostM t s) ∧ ∀ b, b ∈ (rostM t s).map (·.1) ↔ (∃ v : Nat, v < 21 ∧ bas t.Keys v = b) ∨ ∃ w : Nat, w < s ∧ isOn t.Roster w = true ∧ (ent t.Roster w).Base = b
  | 0, _ => by
    obtain ⟨i1, i2⟩ := keysM_cnt t 21 (by omega)
    exact ⟨i1, fun b => (i2 b).trans ⟨.inl, fun h => h.elim (fun h => h) fun ⟨w, hw, _⟩ => by omega⟩⟩
  | s + 1, hs => by
    obtain ⟨i1, i2⟩ := rostM_cnt t s (by omega)
    by_cases h0 : (ent t.Roster s).Base = 0
    · have e : rostM t (s + 1) = rostM t s := by simp [rostM, h0]
      rw [e]
      refine ⟨i1.up, fun b => ?_⟩
      rw [i2]
      constructor
      · rintro (h | ⟨w, hw, h⟩)
        · exact .inl h
        · exact .inr ⟨w, by omega, h⟩
      · rintro (h | ⟨w, hw, hon, h⟩)
        · exact .inl h
        · refine .inr ⟨w, ?_, hon, h⟩
          by_cases he : w = s
          · subst he; exact absurd h0 (isOn_iff.1 hon)
          · omega
    · have e : rostM t (s + 1) = seeI (rostM t s) (ent t.Roster s).Base := by simp [rostM, h0]
      rw [e]
      refine ⟨i1.see (by omega) _, fun b => ?_⟩
      rw [see_keys, i2]
      constructor
      · rintro (rfl | h | ⟨w, hw, h⟩)
        · exact .inr ⟨s, by omega, isOn_iff.2 h0, rfl⟩
        · exact .inl h
        · exact .inr ⟨w, by omega, h⟩
      · rintro (h | ⟨w, hw, hon, h⟩)
        · exact .inr (.inl h)
        · by_cases he : w = s
          · subst he; exact .inl h.symm
          · exact .inr (.inr ⟨w, by omega, hon, h⟩)
/-- The names of a tree, counted. -/
def nameM (t : Tree) : List (Int × Int) := rostM t 64
theorem nameM_len (t : Tree) : (nameM t).length ≤ 85 := (rostM_cnt t 64 (Nat.le_refl _)).1.2.1
theorem nameM_keys (t : Tree) (b : Int) : b ∈ (nameM t).map (·.1) ↔ hasN t b := (rostM_cnt t 64 (Nat.le_refl _)).2 b
theorem nameM_zero (t : Tree) (b : Int) : (mget (nameM t) b).getD 0 = 0 ↔ ¬ hasN t b := by
  rw [← nameM_keys, ← mget_none_iff]
  cases hm : mget (nameM t) b with
  | none => simp
  | some c =>
    have := (rostM_cnt t 64 (Nat.le_refl _)).1.2.2 b c hm
    simp only [Option.getD_some]
    constructor
    · intro h; omega
    · intro h; cases h

/-! ### What begins -/
def bornAt (f F i : Int) : List Reveal := (List.range (F - f).toNat).map (fun (k : Nat) => (⟨f + k, i⟩ : Reveal))
theorem mem_bornAt {f F i : Int} {x : Reveal} : x ∈ bornAt f F i ↔ f ≤ x.Who ∧ x.Who < F ∧ x.Epoch = i := by
  unfold bornAt
  simp only [List.mem_map, List.mem_range]
  constructor
  · rintro ⟨k, hk, rfl⟩
    exact ⟨by show f ≤ f + (k : Int); omega, by show f + (k : Int) < F; omega, rfl⟩
  · rintro ⟨h1, h2, h3⟩
    refine ⟨(x.Who - f).toNat, by omega, ?_⟩
    cases x
    simp only at *
    rw [h3]
    congr 1
    omega
theorem bornAt_lt (f F i : Int) : (bornAt f F i).Pairwise fun x y => x.Who < y.Who := by
  unfold bornAt
  refine List.Pairwise.map _ (fun a b hab => ?_) List.pairwise_lt_range
  show _ + (a : Int) < _ + (b : Int)
  omega
theorem mem_pick {lw : List (Int × Int)} {i : Int} {l : List (Int × Int)} {x : Reveal} : x ∈ pickB22 lw i l ↔ x.Who ∈ l.map (·.1) ∧ (mget lw x.Who).getD 0 = 0 ∧ x.Epoch = i := by
  unfold pickB22
  simp only [List.mem_map, List.mem_filter, decide_eq_true_eq]
  constructor
  · rintro ⟨e, ⟨h1, h2⟩, rfl⟩
    exact ⟨⟨e, h1, rfl⟩, h2, rfl⟩
  · rintro ⟨⟨e, h1, h2⟩, h3, h4⟩
    refine ⟨e, ⟨h1, by rw [h2]; exact h3⟩, ?_⟩
    cases x
    simp only at *
    rw [h2, h4]
theorem pick_nodup {lw : List (Int × Int)} {i : Int} {l : List (Int × Int)} (h : (l.map (·.1)).Nodup) : (pickB22 lw i l).Nodup := by
  have h2 : ((l.filter fun e => decide ((mget lw e.1).getD 0 = 0)).map (·.1)).Nodup := h.sublist (List.filter_sublist.map _)
  have h3 : ((pickB22 lw i l).map (·.Who)).Nodup := by
    unfold pickB22
    rw [List.map_map]
    exact h2
  exact (List.pairwise_map.1 h3).imp fun h he => h (by rw [he])
theorem sort_born {lw l : List (Int × Int)} {i f F : Int} (hn : (l.map (·.1)).Nodup) (hk : ∀ n, (n ∈ l.map (·.1) ∧ (mget lw n).getD 0 = 0) ↔ (f ≤ n ∧ n < F)) : sortL cfV (pickB22 lw i l) = bornAt f F i := by
  have h1 := perm_sortL swo_cfV (pickB22 lw i l)
  have h2 : (pickB22 lw i l).Perm (bornAt f F i) := (List.perm_ext_iff_of_nodup (pick_nodup hn) ((bornAt_lt f F i).imp fun hlt he => by subst he; omega)).2 fun x => by
    rw [mem_pick, mem_bornAt, ← and_assoc, hk, and_assoc]
  have hp := h1.trans h2
  refine List.Perm.eq_of_pairwise (le := fun x y => x.Who ≤ y.Who) (fun x y hx hy h3 h4 => ?_) ((sorted_sortL swo_cfV _).imp fun h => by rw [lt_cfV] at h; simpa using h) ((bornAt_lt f F i).imp fun h => by omega) hp
  have e1 := (mem_bornAt.1 (hp.mem_iff.1 hx)).2.2
  have e2 := (mem_bornAt.1 hy).2.2
  cases x; cases y
  simp only at *
  rw [e1, e2]
  congr 1
  omega
theorem bornGo_cons (f i : Int) (t : Tree) (r : List Tree) : bornGo f i (t :: r) = bornAt f t.Fresh i ++ bornGo t.Fresh (i + 1) r := rfl

/-! ### What Born computes -/
def g_born_r2 : (Unit × Unit × Vector Key 21 × Int × Unit) × (Tree × Unit) × List (Int × Int) × Unit → Option (((Unit × Unit × Vector Key 21 × Int × Unit) × (Tree × Unit) × List (Int × Int) × Unit) ⊕ ((Unit × Unit × Unit) × (Tree × Unit) × List (Int × Int) × Unit))
  | ((_, _, a, b, _), (c, _), e, _) => bif decide (b < 21) then bif decide (0 ≤ b) && decide (b < 21) then some (Sum.inl (((), (), a, IntKind.wrap IntKind.i64 (b + 1), ()), (c, ()), mput e (Arr.get a b).Base (IntKind.wrap IntKind.i64 (Option.getD (mget e (Arr.get a b).Base) 0 + 1)), ())) else none else some (Sum.inr (((), (), ()), (c, ()), e, ()))
def g_born_r3 : (Unit × Vector Entry 64 × Int × Unit) × Unit × List (Int × Int) × Unit → Option (((Unit × Vector Entry 64 × Int × Unit) × Unit × List (Int × Int) × Unit) ⊕ ((Unit × Unit) × Unit × List (Int × Int) × Unit))
  | ((_, a, b, _), _, d, _) => bif decide (b < 64) then bif decide (0 ≤ b) && decide (b < 64) then bif !decide ((Arr.get a b).Base = 0) then some (Sum.inl (((), a, IntKind.wrap IntKind.i64 (b + 1), ()), (), mput d (Arr.get a b).Base (IntKind.wrap IntKind.i64 (Option.getD (mget d (Arr.get a b).Base) 0 + 1)), ())) else some (Sum.inl (((), a, IntKind.wrap IntKind.i64 (b + 1), ()), (), d, ())) else none else some (Sum.inr (((), ()), (), d, ()))
noncomputable def g_born_r1 : (List Reveal × List (Int × Int) × List Tree × Int × Int × Unit) × Unit × Unit → Option (((List Reveal × List (Int × Int) × List Tree × Int × Int × Unit) × Unit × Unit) ⊕ ((List Reveal × Unit) × Unit × Unit))
  | ((xs, lw, a, b, c, _), _, _) => bif decide (c < b) then bif decide (0 ≤ c) && decide (c < (a.length : Int)) then Option.bind (lfp g_born_r2 (((), (), (lat a c).Keys, 0, ()), (lat a c, ()), [], ())) fun z => Option.bind (lfp g_born_r3 (((), z.snd.fst.fst.Roster, 0, ()), (), z.snd.snd.fst, ())) fun z2 => Option.bind (bornF ((xs, (), c, (), (xs.length : Int), a, b, c, ()), (), lw, z2.snd.snd.fst, ())) fun w => some (Sum.inl ((w.1.1, w.1.2.1, w.1.2.2.1, w.1.2.2.2.1, IntKind.wrap IntKind.i64 (w.1.2.2.2.2.1 + 1), ()), (), ())) else none else some (Sum.inr ((xs, ()), (), ()))
noncomputable def g_history_Born : List Tree × Unit → Option (List Reveal × Unit)
  | (a, _) => bif !rightR a then some ([], ()) else Option.bind (lfp g_born_r1 (([], [], a, (a.length : Int), 0, ()), (), ())) fun z => some (z.1.1, ())
theorem born_keys (t : Tree) : lfp g_born_r2 (((), (), t.Keys, 0, ()), (t, ()), [], ()) = some (((), (), ()), (t, ()), keysM t 21, ()) := by
  rw [lfp_run' (fun v => (((), (), t.Keys, (v : Int), ()), (t, ()), keysM t v, ())) 21 (by rfl) fun v hv => by
    have k1 : decide ((v : Int) < 21) = true := decide_eq_true (by omega)
    simp only [g_born_r2, k1, wrap1 v (by omega), Int.natCast_nonneg, decide_true, Bool.and_self, cond_true]
    rfl]
  exact lfp_inr (by simp only [g_born_r2]; rfl)
theorem born_rost (t : Tree) : lfp g_born_r3 (((), t.Roster, 0, ()), (), keysM t 21, ()) = some (((), ()), (), nameM t, ()) := by
  rw [lfp_run' (fun s => (((), t.Roster, (s : Int), ()), (), rostM t s, ())) 64 (by rfl) fun s hs => by
    have k1 : decide ((s : Int) < 64) = true := decide_eq_true (by omega)
    simp only [g_born_r3, k1, wrap1 s (by omega), Int.natCast_nonneg, decide_true, Bool.and_self, cond_true]
    by_cases h0 : (ent t.Roster s).Base = 0
    · simp [rostM, h0]
    · simp [rostM, h0, seeI]]
  exact lfp_inr (by simp only [g_born_r3]; rfl)
theorem born_step {a : List Tree} {t : Tree} {r : List Tree} {i : Nat} {xs : List Reveal} {lw : List (Int × Int)} {f : Int} (ha : a.length ≤ 9000000000000000000) (hd : a.drop i = t :: r) (hx : (xs.length : Int) + 1 = f) (hf : f ≤ 32768)
    (hk : ∀ n, (hasN t n ∧ (mget lw n).getD 0 = 0) ↔ (f ≤ n ∧ n < t.Fresh)) :
    g_born_r1 ((xs, lw, a, (a.length : Int), (i : Int), ()), (), ()) = some (Sum.inl ((xs ++ bornAt f t.Fresh i, nameM t, a, (a.length : Int), ((i + 1 : Nat) : Int), ()), (), ())) := by
  obtain ⟨hl, hx2, hr⟩ := lat_drop hd
  have k1 : decide ((i : Int) < (a.length : Int)) = true := decide_eq_true (by omega)
  have hi2 : IntKind.i64.wrap ((i : Int) + 1) = ((i + 1 : Nat) : Int) := by rw [i64_in _ (by omega)]; omega
  have hnl := nameM_len t
  have k2 : decide ((xs.length + (nameM t).length) * 16 ≤ 140737488355328) = true := decide_eq_true (by omega)
  have hso := sort_born (lw := lw) (l := nameM t) (i := (i : Int)) (rostM_cnt t 64 (Nat.le_refl _)).1.1 (fun n => by rw [nameM_keys]; exact hk n)
  simp only [g_born_r1, k1, hx2, Int.natCast_nonneg, decide_true, Bool.and_self, cond_true, born_keys, born_rost, Option.bind_some, bornF, k2, hso, hi2]
theorem bornAt_len (f F i : Int) : (bornAt f F i).length = (F - f).toNat := by unfold bornAt; simp
theorem born_loop (a : List Tree) (ha : a.length ≤ 9000000000000000000) : ∀ (r : List Tree) (i : Nat) (p : Tree) (xs : List Reveal), a.drop i = r → chainB p r = true → (xs.length : Int) + 1 = p.Fresh → p.Fresh ≤ 32768 →
    lfp g_born_r1 ((xs, nameM p, a, (a.length : Int), (i : Int), ()), (), ()) = some ((xs ++ bornGo p.Fresh i r, ()), (), ())
  | [], i, p, xs, hd, _, _, _ => by
    have hl : a.length ≤ i := List.drop_eq_nil_iff.1 hd
    refine lfp_inr ?_
    have k1 : decide ((i : Int) < (a.length : Int)) = false := decide_eq_false (by omega)
    simp only [g_born_r1, k1, cond_false, bornGo, List.append_nil]
  | t :: r, i, p, xs, hd, hc, hx, hf => by
    simp only [chainB, Bool.and_eq_true] at hc
    obtain ⟨hst, hc⟩ := hc
    unfold stepB at hst
    simp only [Bool.and_eq_true, decide_eq_true_eq] at hst
    obtain ⟨he, ht⟩ := hst
    have hroom := nx_room he
    have hfr := nx_fresh he
    have hcn := cntTo_le (replaced (nextT p (cameB p t)).left) 21
    rw [ht] at hroom hfr
    have hn := hasN_next he
    rw [ht] at hn
    rw [lfp_inl (born_step ha hd hx hf (fun n => by rw [nameM_zero]; exact hn n)), born_loop a ha r (i + 1) t _ (lat_drop hd).2.2 hc (by rw [List.length_append, bornAt_len]; omega) hroom.1, bornGo_cons, List.append_assoc]
    rfl
theorem eq_history_Born : Eqs c_history_Born g_history_Born := Eqs.tot fun (a, _) hf => by
  change List Tree at a
  have ha : a.length * 1888 ≤ 140737488355328 := (Fine.list.1 hf.1).1
  show g_history_Born (a, ()) = some (bornR a, ())
  unfold bornR
  cases hr : rightR a with
  | false => simp only [g_history_Born, hr, Bool.not_false, cond_true, cond_false]
  | true =>
    simp only [g_history_Born, hr, Bool.not_true, cond_true, cond_false]
    cases a with
    | nil => cases hr
    | cons t r =>
      have hr2 : (decide (t = startT) && chainB t r) = true := hr
      rw [Bool.and_eq_true, decide_eq_true_eq] at hr2
      obtain ⟨rfl, hc⟩ := hr2
      have hl : (startT :: r).length ≤ 9000000000000000000 := by omega
      have s1 := born_step (a := startT :: r) (i := 0) (xs := []) (lw := []) (f := 1) hl rfl rfl (by decide) (fun n => by rw [hasN_start]; exact ⟨fun h => h.1, fun h => ⟨h, rfl⟩⟩)
      rw [show lfp g_born_r1 (([], [], startT :: r, ((startT :: r).length : Int), 0, ()), (), ()) = _ from (lfp_inl s1).trans (born_loop (startT :: r) hl r 1 startT _ rfl hc (by decide) (by decide))]
      rfl
end Go.Co.N
end

section
namespace Go.Co.N
open Go Go.Co
abbrev c_law22_lives : Con := c_True []
abbrev c_law22_HistoryPlays : Con := c_True [.list (.st .batch)]
end Go.Co.N
end

section
set_option maxRecDepth 100000
noncomputable section
namespace Go.Co.N
open Go Go.Co
/-- coterie/coterielaw22.lives -/
def g_law22_lives : Unit → Option (Bool × Unit)
  | _ => some (true, ())
end Go.Co.N
end
end

section
namespace Go.Co.N
open Go Go.Co Go.Proofs Go.Sort

theorem eq_law22_lives : Eqs c_law22_lives g_law22_lives := Eqs.tot fun _ _ => rfl
/-! ### Rows -/
theorem step_leads {p : Tree} {b : Batch} (h : (nextT p b).e = 0) : stepB p (nextT p b).t = true := by
  obtain ⟨h1, h2⟩ := came_leads h (B := cameB p (nextT p b).t) (l := sortL cfE (cameL p.Roster (nextT p b).t.Roster)) rfl rfl (perm_sortL swo_cfE _) ((sorted_sortL swo_cfE _).imp fun h => by rw [lt_cfE] at h; simpa using h)
  unfold stepB
  rw [h1, h2]
  simp
theorem step_of {p t : Tree} (h : stepB p t = true) : (nextT p (cameB p t)).e = 0 ∧ (nextT p (cameB p t)).t = t := by
  unfold stepB at h
  simpa using h
theorem chain_play : ∀ (s : List Batch) (p : Tree), chainB p (playT p s).1 = true
  | [], p => rfl
  | b :: s, p => by
    by_cases h : (nextT p b).e = 0
    · simp only [playT, h, decide_true, cond_true, chainB, step_leads h, Bool.true_and]
      exact chain_play s _
    · simp only [playT, decide_eq_false h, cond_false]
      exact chain_play s p
theorem right_play (s : List Batch) : rightR (rowOfS s) = true := by
  show (decide (startT = startT) && chainB startT (playT startT s).1) = true
  rw [chain_play, decide_eq_true rfl]; rfl
theorem errs_len : ∀ (s : List Batch) (p : Tree), (playT p s).2.length = s.length
  | [], p => rfl
  | b :: s, p => by
    by_cases h : (nextT p b).e = 0
    · simp only [playT, h, decide_true, cond_true, List.length_cons, errs_len s]
    · simp only [playT, decide_eq_false h, cond_false, List.length_cons, errs_len s]
theorem chain_epoch : ∀ (r : List Tree) (p : Tree), chainB p r = true → 0 ≤ p.Epoch → p.Epoch ≤ 200 → p.Epoch + (r.length : Int) ≤ 200 ∧ ∀ (i : Nat) (x : Tree), r[i]? = some x → x.Epoch = p.Epoch + 1 + i
  | [], p, _, _, h2 => ⟨by simp only [List.length_nil]; omega, fun i x h => by simp at h⟩
  | t :: r, p, h, h1, h2 => by
    simp only [chainB, Bool.and_eq_true] at h
    obtain ⟨he, ht⟩ := step_of h.1
    have hep := nx_epoch he
    rw [ht] at hep
    obtain ⟨i1, i2⟩ := chain_epoch r t h.2 (by omega) (by omega)
    refine ⟨by simp only [List.length_cons]; omega, fun i x hx => ?_⟩
    cases i with
    | zero =>
      simp only [List.getElem?_cons_zero, Option.some.injEq] at hx
      subst hx
      simp only [Int.natCast_zero]; omega
    | succ i =>
      rw [List.getElem?_cons_succ] at hx
      have := i2 i x hx
      omega
theorem row_len (s : List Batch) : (rowOfS s).length ≤ 201 := by
  have := (chain_epoch _ _ (chain_play s startT) (by decide) (by decide)).1
  show ((playT startT s).1).length + 1 ≤ 201
  have h0 : startT.Epoch = 0 := rfl
  omega
/-! ### HistoryFronts -/
/-! ### HistoryNames -/
theorem bornGo_len : ∀ (r : List Tree) (p : Tree) (i : Int), chainB p r = true → p.Fresh ≤ 32768 → ((bornGo p.Fresh i r).length : Int) + p.Fresh ≤ 32768
  | [], p, i, _, h => by simpa [bornGo] using h
  | t :: r, p, i, hc, h => by
    simp only [chainB, Bool.and_eq_true] at hc
    obtain ⟨he, ht⟩ := step_of hc.1
    have hro := nx_room he
    have hfr := nx_fresh he
    have hcn := cntTo_le (replaced (nextT p (cameB p t)).left) 21
    rw [ht] at hro hfr
    have := bornGo_len r t (i + 1) hc.2 hro.1
    rw [bornGo_cons, List.length_append, bornAt_len]
    omega
/-! ### HistoryOneWay -/
/-- What was seen up to a tree: no step below what a node of it has. -/
def SeenT (p : Tree) (h : List (Int × Int)) : Prop := ∀ n s, mget h n = some s → n < p.Fresh ∧ ∀ w : Nat, w < 85 → (ofT p w).2 = 0 → (ofT p w).1.Base = n → s ≤ (ofT p w).1.Step
/-- The same, in the midst of the next tree t. -/
def SeenV (p t : Tree) (v : Nat) (h : List (Int × Int)) : Prop := ∀ n s, mget h n = some s → (∃ w : Nat, w < v ∧ w < 85 ∧ (ofT t w).2 = 0 ∧ (ofT t w).1.Base = n ∧ (ofT t w).1.Step = s) ∨
  (n < p.Fresh ∧ ∀ w : Nat, w < 85 → (ofT t w).2 = 0 → (ofT t w).1.Base = n → s < (ofT t w).1.Step)
theorem SeenV.put {p t : Tree} {v : Nat} {h : List (Int × Int)} (hs : SeenV p t v h) (hv : v < 85) (h0 : (ofT t v).2 = 0) : SeenV p t (v + 1) (mput h (ofT t v).1.Base (ofT t v).1.Step) := by
  intro n s hm
  rw [mget_mput] at hm
  by_cases he : (ofT t v).1.Base = n
  · rw [if_pos he] at hm
    exact .inl ⟨v, by omega, hv, h0, he, Option.some.inj hm⟩
  · rw [if_neg he] at hm
    rcases hs n s hm with ⟨w, a1, a2⟩ | a
    · exact .inl ⟨w, by omega, a2⟩
    · exact .inr a
theorem SeenV.skip {p t : Tree} {v : Nat} {h : List (Int × Int)} (hs : SeenV p t v h) : SeenV p t (v + 1) h := fun n s hm => by
  rcases hs n s hm with ⟨w, a1, a2⟩ | a
  · exact .inl ⟨w, by omega, a2⟩
  · exact .inr a
theorem SeenV.done {p t : Tree} {h : List (Int × Int)} (hg : goodTree t = true) (hf : p.Fresh ≤ t.Fresh) (hs : SeenV p t 85 h) : SeenT t h := fun n s hm => by
  rcases hs n s hm with ⟨w, a1, a2, a3, a4, a5⟩ | a
  · refine ⟨by have := (ofT_ok hg a2 a3).2.1; omega, fun x hx h1 h2 => ?_⟩
    rcases Nat.lt_trichotomy w x with hl | rfl | hl
    · exact absurd (a4.trans h2.symm) (ofT_names hg hx hl h1 a3)
    · omega
    · exact absurd (h2.trans a4.symm) (ofT_names hg a2 hl a3 h1)
  · exact ⟨by omega, fun x hx h1 h2 => by have := a.2 x hx h1 h2; omega⟩
theorem SeenT.next {p : Tree} {b : Batch} (h : (nextT p b).e = 0) {m : List (Int × Int)} (hs : SeenT p m) : SeenV p (nextT p b).t 0 m := fun n s hm => by
  obtain ⟨h1, h2⟩ := hs n s hm
  refine .inr ⟨h1, fun w hw h0 hb => ?_⟩
  rcases st_of h hw h0 with hf | ⟨a1, a2, _⟩
  · omega
  · rw [a2] at hb ⊢
    have := h2 w hw a1 hb
    show s < (ofT p w).1.Step + 1
    omega
end Go.Co.N
end

section
namespace Go.Co.N
open Go Go.Co
end Go.Co.N
end

section
set_option maxRecDepth 100000
noncomputable section
namespace Go.Co.N
open Go Go.Co
def g_ref12_RowPlay_r1 : (List Tree × List Int × List Batch × Int × Int × Unit) × Unit × Unit → Option (((List Tree × List Int × List Batch × Int × Int × Unit) × Unit × Unit) ⊕ ((List Tree × List Int × Unit) × Unit × Unit))
  | ((a, b, c, d, e, _), _, _) => bif decide (e < d) then bif decide (0 ≤ e) && decide (e < (↑(List.length c) : Int)) then bif decide (0 ≤ IntKind.wrap IntKind.i64 ((↑(List.length a) : Int) - 1)) && decide (IntKind.wrap IntKind.i64 ((↑(List.length a) : Int) - 1) < (↑(List.length a) : Int)) then bif decide ((nextT (lat a (IntKind.wrap IntKind.i64 ((↑(List.length a) : Int) - 1))) (lat c e)).e = 0) then bif decide ((List.length a + 1) * 1888 ≤ 140737488355328) then bif decide ((List.length b + 1) * 8 ≤ 140737488355328) then some (Sum.inl ((List.append a [(nextT (lat a (IntKind.wrap IntKind.i64 ((↑(List.length a) : Int) - 1))) (lat c e)).t], List.append b [(nextT (lat a (IntKind.wrap IntKind.i64 ((↑(List.length a) : Int) - 1))) (lat c e)).e], c, d, IntKind.wrap IntKind.i64 (e + 1), ()), (), ())) else none else none else bif decide ((List.length b + 1) * 8 ≤ 140737488355328) then some (Sum.inl ((a, List.append b [(nextT (lat a (IntKind.wrap IntKind.i64 ((↑(List.length a) : Int) - 1))) (lat c e)).e], c, d, IntKind.wrap IntKind.i64 (e + 1), ()), (), ())) else none else none else none else some (Sum.inr ((a, b, ()), (), ()))
/-- coterie/coterieref12.RowPlay -/
def g_ref12_RowPlay : List Batch × Unit → Option (List Tree × List Int × Unit)
  | (a, _) => Option.bind (lfp g_ref12_RowPlay_r1 (([startT], [], a, (↑(List.length a) : Int), 0, ()), (), ())) fun z => some (z.fst.fst, z.fst.snd.fst, ())
def g_ref12_between_r1 : (Unit × Unit × Unit × Unit × Int × Unit) × (Tree × Tree × (Unit × Unit × Unit) × (List Int × Unit × Unit) × Unit) × Unit → Option (((Unit × Unit × Unit × Unit × Int × Unit) × (Tree × Tree × (Unit × Unit × Unit) × (List Int × Unit × Unit) × Unit) × Unit) ⊕ ((Unit × Unit × Unit × Unit × Unit) × (Tree × Tree × (Unit × Unit × Unit) × (List Int × Unit × Unit) × Unit) × Unit))
  | ((_, _, _, _, a, _), (b, c, (_, _, _), (d, _, _), _), _) => bif decide (a < 64) then bif decide (0 ≤ a) && decide (a < 64) then bif !decide ((Arr.get b.Roster a).Base = 0) then bif decide (0 ≤ a) && decide (a < 64) then bif decide (0 ≤ a) && decide (a < 64) then bif !decide (Arr.get b.Roster a = Arr.get c.Roster a) then bif decide (0 ≤ a) && decide (a < 64) then bif decide ((List.length d + 1) * 8 ≤ 140737488355328) then some (Sum.inl (((), (), (), (), IntKind.wrap IntKind.i64 (a + 1), ()), (b, c, ((), (), ()), (List.append d [(Arr.get b.Roster a).Who], (), ()), ()), ())) else none else none else some (Sum.inl (((), (), (), (), IntKind.wrap IntKind.i64 (a + 1), ()), (b, c, ((), (), ()), (d, (), ()), ()), ())) else none else none else some (Sum.inl (((), (), (), (), IntKind.wrap IntKind.i64 (a + 1), ()), (b, c, ((), (), ()), (d, (), ()), ()), ())) else none else some (Sum.inr (((), (), (), (), ()), (b, c, ((), (), ()), (d, (), ()), ()), ()))
def g_ref12_between_r3 : (Unit × Unit × Unit × Unit × Int × Int × Int × Unit) × (Tree × Tree × (Unit × Unit × Unit) × (List Int × List Int × Unit) × Unit) × Unit → Option (((Unit × Unit × Unit × Unit × Int × Int × Int × Unit) × (Tree × Tree × (Unit × Unit × Unit) × (List Int × List Int × Unit) × Unit) × Unit) ⊕ ((Unit × Unit × Unit × Unit × Int × Unit) × (Tree × Tree × (Unit × Unit × Unit) × (List Int × List Int × Unit) × Unit) × Unit))
  | ((_, _, _, _, a, b, c, _), (d, e, (_, _, _), (f, g, _), _), _) => bif decide (c < 64) then bif decide (0 ≤ c) && decide (c < 64) then bif decide (a < (Arr.get e.Roster c).Base) then bif decide (0 ≤ c) && decide (c < 64) then bif !decide (Arr.get e.Roster c = Arr.get d.Roster c) then bif decide (b < 0) then some (Sum.inl (((), (), (), (), a, c, IntKind.wrap IntKind.i64 (c + 1), ()), (d, e, ((), (), ()), (f, g, ()), ()), ())) else bif decide (0 ≤ b) && decide (b < 64) then bif decide ((Arr.get e.Roster c).Base < (Arr.get e.Roster b).Base) then some (Sum.inl (((), (), (), (), a, c, IntKind.wrap IntKind.i64 (c + 1), ()), (d, e, ((), (), ()), (f, g, ()), ()), ())) else some (Sum.inl (((), (), (), (), a, b, IntKind.wrap IntKind.i64 (c + 1), ()), (d, e, ((), (), ()), (f, g, ()), ()), ())) else none else some (Sum.inl (((), (), (), (), a, b, IntKind.wrap IntKind.i64 (c + 1), ()), (d, e, ((), (), ()), (f, g, ()), ()), ())) else none else some (Sum.inl (((), (), (), (), a, b, IntKind.wrap IntKind.i64 (c + 1), ()), (d, e, ((), (), ()), (f, g, ()), ()), ())) else none else some (Sum.inr (((), (), (), (), b, ()), (d, e, ((), (), ()), (f, g, ()), ()), ()))
def g_ref12_between_r2 : (Unit × Unit × Unit × Unit × Int × Unit) × (Tree × Tree × (Unit × Unit × Unit) × (List Int × List Int × Unit) × Unit) × Unit → Option (((Unit × Unit × Unit × Unit × Int × Unit) × (Tree × Tree × (Unit × Unit × Unit) × (List Int × List Int × Unit) × Unit) × Unit) ⊕ ((Unit × Unit) × ((List Int × List Int × Unit) × Unit) × Unit))
  | ((_, _, _, _, a, _), (b, c, (_, _, _), (d, e, _), _), _) => Option.bind (lfp g_ref12_between_r3 (((), (), (), (), a, -1, 0, ()), (b, c, ((), (), ()), (d, e, ()), ()), ())) fun z => bif decide (z.fst.snd.snd.snd.snd.fst < 0) then some (Sum.inr (((), ()), ((z.snd.fst.snd.snd.snd.fst.fst, z.snd.fst.snd.snd.snd.fst.snd.fst, ()), ()), ())) else bif decide (0 ≤ z.fst.snd.snd.snd.snd.fst) && decide (z.fst.snd.snd.snd.snd.fst < 64) then bif decide (0 ≤ z.fst.snd.snd.snd.snd.fst) && decide (z.fst.snd.snd.snd.snd.fst < 64) then bif decide ((List.length z.snd.fst.snd.snd.snd.fst.snd.fst + 1) * 8 ≤ 140737488355328) then some (Sum.inl (((), (), (), (), (Arr.get z.snd.fst.snd.fst.Roster z.fst.snd.snd.snd.snd.fst).Base, ()), (z.snd.fst.fst, z.snd.fst.snd.fst, ((), (), ()), (z.snd.fst.snd.snd.snd.fst.fst, List.append z.snd.fst.snd.snd.snd.fst.snd.fst [(Arr.get z.snd.fst.snd.fst.Roster z.fst.snd.snd.snd.snd.fst).Who], ()), ()), ())) else none else none else none
/-- coterie/coterieref12.between -/
def g_ref12_between : Tree × Tree × Unit → Option (Batch × Unit)
  | (a, b, _) => Option.bind (lfp g_ref12_between_r1 (((), (), (), (), 0, ()), (a, b, ((), (), ()), ([], (), ()), ()), ())) fun z => Option.bind (lfp g_ref12_between_r2 (((), (), (), (), 0, ()), (z.snd.fst.fst, z.snd.fst.snd.fst, ((), (), ()), (z.snd.fst.snd.snd.snd.fst.fst, [], ()), ()), ())) fun z => some (Batch.mk z.snd.fst.fst.fst z.snd.fst.fst.snd.fst, ())
def g_ref12_RowRight_r1 : (List Tree × Int × Unit) × Unit × Unit → Option (((List Tree × Int × Unit) × Unit × Unit) ⊕ ((Bool × Unit) × Unit × Unit ⊕ Unit × Unit × Unit))
  | ((a, b, _), _, _) => bif decide (b < (↑(List.length a) : Int)) then bif decide (0 ≤ IntKind.wrap IntKind.i64 (b - 1)) && decide (IntKind.wrap IntKind.i64 (b - 1) < (↑(List.length a) : Int)) then bif decide (0 ≤ IntKind.wrap IntKind.i64 (b - 1)) && decide (IntKind.wrap IntKind.i64 (b - 1) < (↑(List.length a) : Int)) then bif decide (0 ≤ b) && decide (b < (↑(List.length a) : Int)) then bif !decide ((nextT (lat a (IntKind.wrap IntKind.i64 (b - 1))) (btwB (lat a (IntKind.wrap IntKind.i64 (b - 1))) (lat a b))).e = 0) then some (Sum.inr (Sum.inl ((false, ()), (), ()))) else bif decide (0 ≤ b) && decide (b < (↑(List.length a) : Int)) then bif !decide ((nextT (lat a (IntKind.wrap IntKind.i64 (b - 1))) (btwB (lat a (IntKind.wrap IntKind.i64 (b - 1))) (lat a b))).t = lat a b) then some (Sum.inr (Sum.inl ((false, ()), (), ()))) else some (Sum.inl ((a, IntKind.wrap IntKind.i64 (b + 1), ()), (), ())) else none else none else none else none else some (Sum.inr (Sum.inr ((), (), ())))
/-- coterie/coterieref12.RowRight -/
def g_ref12_RowRight : List Tree × Unit → Option (Bool × Unit)
  | (a, _) => bif decide ((↑(List.length a) : Int) = 0) then some (false, ()) else bif decide (0 < (↑(List.length a) : Int)) then bif !decide (lat a 0 = startT) then some (false, ()) else Option.bind (lfp g_ref12_RowRight_r1 ((a, 1, ()), (), ())) fun z => Sum.elim (fun x => some (x.fst.fst, ())) (fun _ => some (true, ())) z else none
def g_ref12_RowOn_r1 : (List Tree × Int × Int × Int × Unit) × Unit × Unit → Option (((List Tree × Int × Int × Int × Unit) × Unit × Unit) ⊕ ((Bool × Unit) × Unit × Unit ⊕ Unit × Unit × Unit))
  | ((a, b, c, d, _), _, _) => bif decide (d ≤ c) then bif decide (0 ≤ d) && decide (d < (↑(List.length a) : Int)) then bif decide (findR (lat a d).Roster b < 0) then some (Sum.inr (Sum.inl ((false, ()), (), ()))) else some (Sum.inl ((a, b, c, IntKind.wrap IntKind.i64 (d + 1), ()), (), ())) else none else some (Sum.inr (Sum.inr ((), (), ())))
/-- coterie/coterieref12.RowOn -/
def g_ref12_RowOn : List Tree × Int × Int × Int × Unit → Option (Bool × Unit)
  | (a, b, c, d, _) => bif decide (c < 0) then some (false, ()) else bif decide ((↑(List.length a) : Int) ≤ d) then some (false, ()) else bif decide (d < c) then some (false, ()) else Option.bind (lfp g_ref12_RowOn_r1 ((a, b, d, c, ()), (), ())) fun z => Sum.elim (fun x => some (x.fst.fst, ())) (fun _ => some (true, ())) z
def g_ref12_RowExcused_r1 : (List Tree × Int × Int × List Reveal × Int × Int × Unit) × Unit × Unit → Option (((List Tree × Int × Int × List Reveal × Int × Int × Unit) × Unit × Unit) ⊕ ((Bool × Unit) × Unit × Unit ⊕ Unit × Unit × Unit))
  | ((a, b, c, d, e, f, _), _, _) => bif decide (f < e) then bif decide (0 ≤ f) && decide (f < (↑(List.length d) : Int)) then bif !onR a (lat d f).Who (lat d f).Epoch b then some (Sum.inl ((a, b, c, d, e, IntKind.wrap IntKind.i64 (f + 1), ()), (), ())) else bif decide (0 ≤ b) && decide (b < (↑(List.length a) : Int)) then bif below c (leaf (findR (lat a b).Roster (lat d f).Who)) then some (Sum.inr (Sum.inl ((true, ()), (), ()))) else some (Sum.inl ((a, b, c, d, e, IntKind.wrap IntKind.i64 (f + 1), ()), (), ())) else none else none else some (Sum.inr (Sum.inr ((), (), ())))
/-- coterie/coterieref12.RowExcused -/
def g_ref12_RowExcused : List Tree × List Reveal × Int × Int × Unit → Option (Bool × Unit)
  | (a, b, c, d, _) => bif decide (c < 0) then some (false, ()) else bif decide ((↑(List.length a) : Int) ≤ c) then some (false, ()) else bif decide (d < 0) then some (false, ()) else bif decide (21 ≤ d) then some (false, ()) else Option.bind (lfp g_ref12_RowExcused_r1 ((a, c, d, b, (↑(List.length b) : Int), 0, ()), (), ())) fun z => Sum.elim (fun x => some (x.fst.fst, ())) (fun _ => some (false, ())) z
/-- coterie/coterieref22.Play -/
def g_ref22_Play : List Batch × Unit → Option (List Tree × List Int × Unit)
  | (a, _) => some (rowOfS a, errsOfS a, ())
/-- coterie/coterieref22.Right -/
def g_ref22_Right : List Tree × Unit → Option (Bool × Unit)
  | (a, _) => some (rightR a, ())
/-- coterie/coterieref22.On -/
def g_ref22_On : List Tree × Int × Int × Int × Unit → Option (Bool × Unit)
  | (a, b, c, d, _) => some (onR a b c d, ())
/-- coterie/coterieref22.Excused -/
def g_ref22_Excused : List Tree × List Reveal × Int × Int × Unit → Option (Bool × Unit)
  | (a, b, c, d, _) => some (excR a b c d, ())
/-- coterie/coterieref22.Born -/
def g_ref22_Born : List Tree × Unit → Option (List Reveal × Unit)
  | (a, _) => some (bornR a, ())
def g_ref22_Same_r1 : (List Reveal × List Reveal × Int × Int × Unit) × Unit × Unit → Option (((List Reveal × List Reveal × Int × Int × Unit) × Unit × Unit) ⊕ ((Bool × Unit) × Unit × Unit ⊕ Unit × Unit × Unit))
  | ((a, b, c, d, _), _, _) => bif decide (d < c) then bif decide (0 ≤ d) && decide (d < (↑(List.length a) : Int)) then bif decide (0 ≤ d) && decide (d < (↑(List.length b) : Int)) then bif !decide (lat a d = lat b d) then some (Sum.inr (Sum.inl ((false, ()), (), ()))) else some (Sum.inl ((a, b, c, IntKind.wrap IntKind.i64 (d + 1), ()), (), ())) else none else none else some (Sum.inr (Sum.inr ((), (), ())))
/-- coterie/coterieref22.Same -/
def g_ref22_Same : List Reveal × List Reveal × Unit → Option (Bool × Unit)
  | (a, b, _) => bif !decide ((↑(List.length a) : Int) = (↑(List.length b) : Int)) then some (false, ()) else Option.bind (lfp g_ref22_Same_r1 ((a, b, (↑(List.length a) : Int), 0, ()), (), ())) fun z => Sum.elim (fun x => some (x.fst.fst, ())) (fun _ => some (true, ())) z
def g_ref22_SameRow_r1 : (List Tree × List Tree × Int × Int × Unit) × Unit × Unit → Option (((List Tree × List Tree × Int × Int × Unit) × Unit × Unit) ⊕ ((Bool × Unit) × Unit × Unit ⊕ Unit × Unit × Unit))
  | ((a, b, c, d, _), _, _) => bif decide (d < c) then bif decide (0 ≤ d) && decide (d < (↑(List.length a) : Int)) then bif decide (0 ≤ d) && decide (d < (↑(List.length b) : Int)) then bif !decide (lat a d = lat b d) then some (Sum.inr (Sum.inl ((false, ()), (), ()))) else some (Sum.inl ((a, b, c, IntKind.wrap IntKind.i64 (d + 1), ()), (), ())) else none else none else some (Sum.inr (Sum.inr ((), (), ())))
/-- coterie/coterieref22.SameRow -/
def g_ref22_SameRow : List Tree × List Tree × Unit → Option (Bool × Unit)
  | (a, b, _) => bif !decide ((↑(List.length a) : Int) = (↑(List.length b) : Int)) then some (false, ()) else Option.bind (lfp g_ref22_SameRow_r1 ((a, b, (↑(List.length a) : Int), 0, ()), (), ())) fun z => Sum.elim (fun x => some (x.fst.fst, ())) (fun _ => some (true, ())) z
def g_ref22_SameErrors_r1 : (List Int × List Int × Int × Int × Unit) × Unit × Unit → Option (((List Int × List Int × Int × Int × Unit) × Unit × Unit) ⊕ ((Bool × Unit) × Unit × Unit ⊕ Unit × Unit × Unit))
  | ((a, b, c, d, _), _, _) => bif decide (d < c) then bif decide (0 ≤ d) && decide (d < (↑(List.length a) : Int)) then bif decide (0 ≤ d) && decide (d < (↑(List.length b) : Int)) then bif !decide (lat a d = lat b d) then some (Sum.inr (Sum.inl ((false, ()), (), ()))) else some (Sum.inl ((a, b, c, IntKind.wrap IntKind.i64 (d + 1), ()), (), ())) else none else none else some (Sum.inr (Sum.inr ((), (), ())))
/-- coterie/coterieref22.SameErrors -/
def g_ref22_SameErrors : List Int × List Int × Unit → Option (Bool × Unit)
  | (a, b, _) => bif !decide ((↑(List.length a) : Int) = (↑(List.length b) : Int)) then some (false, ()) else Option.bind (lfp g_ref22_SameErrors_r1 ((a, b, (↑(List.length a) : Int), 0, ()), (), ())) fun z => Sum.elim (fun x => some (x.fst.fst, ())) (fun _ => some (true, ())) z
end Go.Co.N
end
end

section
namespace Go.Co.N
open Go Go.Co Go.Proofs Go.Sort

/-! ### RowPlay -/
theorem rowplay_loop (c : List Batch) (hc : c.length * 48 ≤ 140737488355328) : ∀ (r : List Batch) (i : Nat) (acc : List Tree) (errs : List Int) (f : Tree), c.drop i = r → errs.length = i → ((acc.length : Int)) = f.Epoch → f.Epoch ≤ 200 →
    lfp g_ref12_RowPlay_r1 ((acc ++ [f], errs, c, (c.length : Int), (i : Int), ()), (), ()) = some ((acc ++ f :: (playT f r).1, errs ++ (playT f r).2, ()), (), ())
  | [], i, acc, errs, f, hd, hi, _, _ => by
    have hl : c.length ≤ i := List.drop_eq_nil_iff.1 hd
    refine lfp_inr ?_
    have k1 : decide ((i : Int) < (c.length : Int)) = false := decide_eq_false (by omega)
    simp only [g_ref12_RowPlay_r1, k1, cond_false, playT, List.append_nil]
  | b :: r, i, acc, errs, f, hd, hi, ha, hf => by
    obtain ⟨hl, hx, hr⟩ := lat_drop hd
    have k1 : decide ((i : Int) < (c.length : Int)) = true := decide_eq_true (by omega)
    have k2 : decide ((errs.length + 1) * 8 ≤ 140737488355328) = true := decide_eq_true (by omega)
    have k3 : decide (((acc ++ [f]).length + 1) * 1888 ≤ 140737488355328) = true := decide_eq_true (by rw [List.length_append, List.length_singleton]; omega)
    have hi2 : IntKind.i64.wrap ((i : Int) + 1) = ((i + 1 : Nat) : Int) := by rw [i64_in _ (by omega)]; omega
    have w1 : IntKind.wrap IntKind.i64 (((acc ++ [f]).length : Int) - 1) = (acc.length : Int) := by rw [List.length_append, List.length_singleton, i64_in _ (by omega)]; omega
    have k4 : decide ((acc.length : Int) < ((acc ++ [f]).length : Int)) = true := decide_eq_true (by rw [List.length_append, List.length_singleton]; omega)
    have k5 : lat (acc ++ [f]) (acc.length : Int) = f := by rw [lat_nat _ _ (by rw [List.length_append, List.length_singleton]; omega)]; simp
    by_cases h : (nextT f b).e = 0
    · have he := nx_epoch h
      have ih := rowplay_loop c hc r (i + 1) (acc ++ [f]) (errs ++ [0]) (nextT f b).t hr (by simp [hi]) (by rw [List.length_append, List.length_singleton]; omega) (by omega)
      rw [lfp_inl (x' := (((acc ++ [f]) ++ [(nextT f b).t], errs ++ [0], c, (c.length : Int), ((i + 1 : Nat) : Int), ()), (), ())) (by
        simp only [g_ref12_RowPlay_r1, k1, k2, k3, w1, k4, k5, hx, hi2, h, Int.natCast_nonneg, decide_true, Bool.and_self, cond_true]; rfl), ih]
      simp only [playT, h, decide_true, cond_true, List.append_assoc, List.cons_append, List.nil_append]
    · have ih := rowplay_loop c hc r (i + 1) acc (errs ++ [(nextT f b).e]) f hr (by simp [hi]) ha hf
      rw [lfp_inl (x' := ((acc ++ [f], errs ++ [(nextT f b).e], c, (c.length : Int), ((i + 1 : Nat) : Int), ()), (), ())) (by
        simp only [g_ref12_RowPlay_r1, k1, k2, w1, k4, k5, hx, hi2, decide_eq_false h, Int.natCast_nonneg, decide_true, Bool.and_self, cond_true, cond_false]; rfl), ih]
      simp only [playT, decide_eq_false h, cond_false, List.append_assoc, List.cons_append, List.nil_append]
theorem eq_ref12_RowPlay : Eqs c_ref12_RowPlay g_ref12_RowPlay := Eqs.tot fun (c, _) hf => by
  change List Batch at c
  have hc : c.length * 48 ≤ 140737488355328 := (Fine.list.1 hf.1).1
  have h := rowplay_loop c hc c 0 [] [] startT rfl rfl rfl (by decide)
  simp only [g_ref12_RowPlay]
  rw [show lfp g_ref12_RowPlay_r1 (([startT], [], c, (c.length : Int), 0, ()), (), ()) = _ from h]
  rfl

/-! ### between -/
theorem pick_none {a b : Roster} {last : Int} : ∀ {n : Nat}, pickB a b last n = none → ∀ i, i < n → cameAt a b last i = false
  | 0, _, i, hi => by omega
  | n + 1, h, i, hi => by
    simp only [pickB] at h
    cases hc : cameAt a b last n with
    | false =>
      rw [hc, Bool.false_and, cond_false] at h
      by_cases he : i = n
      · subst he; exact hc
      · exact pick_none h i (by omega)
    | true =>
      rw [hc, Bool.true_and] at h
      cases hp : pickB a b last n with
      | none => rw [hp] at h; simp at h
      | some k =>
        rw [hp] at h
        cases hd : decide ((ent b n).Base < (ent b k).Base) <;> simp [hd] at h
theorem pick_some {a b : Roster} {last : Int} : ∀ {n k : Nat}, pickB a b last n = some k → k < n ∧ cameAt a b last k = true ∧ ∀ i, i < n → cameAt a b last i = true → (ent b k).Base ≤ (ent b i).Base
  | 0, _, h => by cases h
  | n + 1, k, h => by
    simp only [pickB] at h
    cases hc : cameAt a b last n with
    | false =>
      rw [hc, Bool.false_and, cond_false] at h
      obtain ⟨h1, h2, h3⟩ := pick_some h
      refine ⟨by omega, h2, fun i hi hci => ?_⟩
      by_cases he : i = n
      · subst he; rw [hc] at hci; cases hci
      · exact h3 i (by omega) hci
    | true =>
      rw [hc, Bool.true_and] at h
      cases hp : pickB a b last n with
      | none =>
        rw [hp] at h
        simp only [cond_true, Option.some.injEq] at h
        subst h
        refine ⟨by omega, hc, fun i hi hci => ?_⟩
        by_cases he : i = n
        · subst he; omega
        · rw [pick_none hp i (by omega)] at hci; cases hci
      | some j =>
        rw [hp] at h
        obtain ⟨h1, h2, h3⟩ := pick_some hp
        by_cases hd : (ent b n).Base < (ent b j).Base
        · simp only [decide_eq_true hd, cond_true, Option.some.injEq] at h
          subst h
          refine ⟨by omega, hc, fun i hi hci => ?_⟩
          by_cases he : i = n
          · subst he; omega
          · have := h3 i (by omega) hci; omega
        · simp only [decide_eq_false hd, cond_false, Option.some.injEq] at h
          subst h
          refine ⟨by omega, h2, fun i hi hci => ?_⟩
          by_cases he : i = n
          · subst he; omega
          · exact h3 i (by omega) hci
def pickI (o : Option Nat) : Int := match o with | some k => (k : Int) | none => -1
theorem between_inner (a b : Tree) (last : Int) (f g : List Int) : lfp g_ref12_between_r3 (((), (), (), (), last, -1, 0, ()), (a, b, ((), (), ()), (f, g, ()), ()), ()) = some (((), (), (), (), pickI (pickB a.Roster b.Roster last 64), ()), (a, b, ((), (), ()), (f, g, ()), ()), ()) := by
  rw [lfp_run' (fun i => (((), (), (), (), last, pickI (pickB a.Roster b.Roster last i), (i : Int), ()), (a, b, ((), (), ()), (f, g, ()), ()), ())) 64 (by rfl) fun i hi => by
    have k1 : decide ((i : Int) < 64) = true := decide_eq_true (by omega)
    simp only [g_ref12_between_r3, k1, wrap1 i (by omega), Int.natCast_nonneg, decide_true, Bool.and_self, cond_true]
    cases hd : decide (last < (ent b.Roster i).Base) with
    | false => simp only [cond_false, pickB, cameAt, hd, Bool.false_and]
    | true =>
      cases he : decide (ent b.Roster i = ent a.Roster i) with
      | true => simp only [cond_true, cond_false, pickB, cameAt, hd, he, Bool.not_true, Bool.and_false, Bool.false_and]
      | false =>
        simp only [cond_true, Bool.not_false, pickB, cameAt, hd, he, Bool.true_and]
        cases hp : pickB a.Roster b.Roster last i with
        | none => rfl
        | some k =>
          have hk := (pick_some hp).1
          have d1 : decide (pickI (some k) < 0) = false := decide_eq_false (by show ¬ (k : Int) < 0; omega)
          have d2 : decide (0 ≤ pickI (some k)) = true := decide_eq_true (by show 0 ≤ (k : Int); omega)
          have d3 : decide (pickI (some k) < 64) = true := decide_eq_true (by show (k : Int) < 64; omega)
          simp only [d1, d2, d3, cond_false, Bool.and_self, cond_true]
          show (bif decide ((ent b.Roster i).Base < (ent b.Roster (k : Int)).Base) then _ else _) = _
          cases decide ((ent b.Roster i).Base < (ent b.Roster (k : Int)).Base) <;> rfl]
  exact lfp_inr (by simp only [g_ref12_between_r3]; rfl)
theorem btw_grow {a b : Roster} : ∀ (k : Nat) (last : Int), (∀ x ∈ btwE a b k last, last < x.Base) ∧ (btwE a b k last).Pairwise (fun x y => x.Base < y.Base) ∧ ∀ x ∈ btwE a b k last, ∃ s : Nat, s < 64 ∧ ent a s ≠ ent b s ∧ ent b s = x
  | 0, last => ⟨by simp [btwE], by simp [btwE], by simp [btwE]⟩
  | k + 1, last => by
    cases hp : pickB a b last 64 with
    | none => simp [btwE, hp]
    | some i =>
      obtain ⟨h1, h2, h3⟩ := pick_some hp
      obtain ⟨i1, i2, i3⟩ := btw_grow (a := a) (b := b) k (ent b i).Base
      have hc : last < (ent b i).Base ∧ ent b i ≠ ent a i := by
        unfold cameAt at h2
        simpa using h2
      have e : btwE a b (k + 1) last = ent b i :: btwE a b k (ent b i).Base := by simp only [btwE, hp]
      rw [e]
      refine ⟨fun x hx => ?_, ?_, fun x hx => ?_⟩
      · rcases List.mem_cons.1 hx with rfl | hx
        · exact hc.1
        · have := i1 x hx; omega
      · exact List.pairwise_cons.2 ⟨i1, i2⟩
      · rcases List.mem_cons.1 hx with rfl | hx
        · exact ⟨i, h1, fun h => hc.2 h.symm, rfl⟩
        · exact i3 x hx
theorem btw_len {a b : Roster} (k : Nat) (last : Int) : (btwE a b k last).length ≤ 64 := by
  obtain ⟨_, h2, h3⟩ := btw_grow (a := a) (b := b) k last
  have hn : (btwE a b k last).Nodup := h2.imp fun h he => by subst he; omega
  have hsub : ∀ x ∈ btwE a b k last, x ∈ (List.range 64).map (fun (s : Nat) => ent b s) := fun x hx => by
    obtain ⟨s, hs, _, rfl⟩ := h3 x hx
    exact List.mem_map.2 ⟨s, List.mem_range.2 hs, rfl⟩
  have := List.Nodup.length_le_of_subset hn hsub
  simpa using this
theorem between_loop (a b : Tree) (f : List Int) : ∀ (k : Nat) (last : Int) (g : List Int), (g.length + (btwE a.Roster b.Roster (k + 1) last).length ≤ 1000) → (btwE a.Roster b.Roster (k + 1) last).length ≤ k →
    lfp g_ref12_between_r2 (((), (), (), (), last, ()), (a, b, ((), (), ()), (f, g, ()), ()), ()) = some (((), ()), ((f, g ++ (btwE a.Roster b.Roster (k + 1) last).map (·.Who), ()), ()), ())
  | k, last, g, hl, hk => by
    cases hp : pickB a.Roster b.Roster last 64 with
    | none =>
      refine lfp_inr ?_
      simp only [g_ref12_between_r2, between_inner, hp, Option.bind_some, pickI, btwE, List.map_nil, List.append_nil]
      rfl
    | some i =>
      obtain ⟨h1, _, _⟩ := pick_some hp
      have e : btwE a.Roster b.Roster (k + 1) last = ent b.Roster i :: btwE a.Roster b.Roster k (ent b.Roster i).Base := by simp only [btwE, hp]
      rw [e] at hl hk ⊢
      simp only [List.length_cons] at hl hk
      obtain ⟨k, rfl⟩ : ∃ k', k = k' + 1 := ⟨k - 1, by omega⟩
      have d1 : decide ((i : Int) < 0) = false := decide_eq_false (by omega)
      have d2 : decide ((i : Int) < 64) = true := decide_eq_true (by omega)
      have d3 : decide ((g.length + 1) * 8 ≤ 140737488355328) = true := decide_eq_true (by omega)
      have ih := between_loop a b f k (ent b.Roster i).Base (g ++ [(ent b.Roster i).Who]) (by rw [List.length_append, List.length_singleton]; omega) (by omega)
      rw [lfp_inl (x' := (((), (), (), (), (ent b.Roster i).Base, ()), (a, b, ((), (), ()), (f, g ++ [(ent b.Roster i).Who], ()), ()), ())) (by
        simp only [g_ref12_between_r2, between_inner, hp, Option.bind_some, pickI, d1, d2, d3, Int.natCast_nonneg, decide_true, Bool.and_self, cond_true, cond_false]
        rfl), ih]
      simp only [List.map_cons, List.append_assoc, List.cons_append, List.nil_append]
theorem eq_ref12_between : Eqs c_ref12_between g_ref12_between := Eqs.tot fun (a, b, _) _ => by
  change Tree at a; change Tree at b
  have h1 : lfp g_ref12_between_r1 (((), (), (), (), 0, ()), (a, b, ((), (), ()), ([], (), ()), ()), ()) = some (((), (), (), (), ()), (a, b, ((), (), ()), (leftL a.Roster b.Roster, (), ()), ()), ()) := by
    rw [lfp_run' (fun i => (((), (), (), (), (i : Int), ()), (a, b, ((), (), ()), (leftN a.Roster b.Roster i, (), ()), ()), ())) 64 (by rfl) fun i hi => by
      have k1 : decide ((i : Int) < 64) = true := decide_eq_true (by omega)
      have l1 := leftN_len a.Roster b.Roster i
      have k2 : decide (((leftN a.Roster b.Roster i).length + 1) * 8 ≤ 140737488355328) = true := decide_eq_true (by omega)
      simp only [g_ref12_between_r1, k1, k2, wrap1 i (by omega), Int.natCast_nonneg, decide_true, Bool.and_self, cond_true, leftN_succ]
      unfold isOn
      by_cases ha : (ent a.Roster i).Base = 0
      · simp [ha]
      · by_cases he : ent a.Roster i = ent b.Roster i
        · rw [he] at ha
          simp [he, ha]
        · simp [he, ha]]
    exact lfp_inr (by simp only [g_ref12_between_r1]; rfl)
  have hl := btw_len (a := a.Roster) (b := b.Roster) 65 0
  simp only [g_ref12_between]
  rw [h1, Option.bind_some]
  dsimp only
  rw [between_loop a b (leftL a.Roster b.Roster) 64 0 [] (by show 0 + (btwE a.Roster b.Roster 65 0).length ≤ 1000; omega) hl]
  rfl
/-- Of a step's trees all who came are told, by their names. -/
theorem btw_all {a b : Roster} (hd : ∀ i j : Nat, i < 64 → j < 64 → (ent b i).Base = (ent b j).Base → (ent b i).Base ≠ 0 → i = j) : ∀ (l : List Entry) (k : Nat) (last : Int), l.length ≤ k → l.Pairwise (fun x y => x.Base < y.Base) → (∀ x, x ∈ l ↔ ∃ s : Nat, s < 64 ∧ cameAt a b last s = true ∧ ent b s = x) → 0 ≤ last → btwE a b (k + 1) last = l
  | [], k, last, _, _, hm, _ => by
    cases hp : pickB a b last 64 with
    | none => simp only [btwE, hp]
    | some i =>
      obtain ⟨h1, h2, _⟩ := pick_some hp
      have := (hm (ent b i)).2 ⟨i, h1, h2, rfl⟩
      cases this
  | x :: l, k, last, hk, hs, hm, h0 => by
    obtain ⟨k, rfl⟩ : ∃ k', k = k' + 1 := ⟨k - 1, by simp only [List.length_cons] at hk; omega⟩
    obtain ⟨s, hs64, hcs, hse⟩ := (hm x).1 (List.mem_cons_self ..)
    have hlt := (List.pairwise_cons.1 hs).1
    cases hp : pickB a b last 64 with
    | none =>
      rw [pick_none hp s hs64] at hcs
      cases hcs
    | some i =>
      obtain ⟨h1, h2, h3⟩ := pick_some hp
      have hie : ent b i = x := by
        have hmem := (hm (ent b i)).2 ⟨i, h1, h2, rfl⟩
        rcases List.mem_cons.1 hmem with h | h
        · exact h
        · have q1 := hlt _ h
          have q2 := h3 s hs64 hcs
          rw [hse] at q2
          omega
      have hb0 : last < (ent b i).Base := by
        unfold cameAt at h2
        simp only [Bool.and_eq_true, decide_eq_true_eq] at h2
        exact h2.1
      have e : btwE a b (k + 1 + 1) last = ent b i :: btwE a b (k + 1) (ent b i).Base := by simp only [btwE, hp]
      rw [e, hie, btw_all hd l k x.Base (by simp only [List.length_cons] at hk; omega) (List.pairwise_cons.1 hs).2 (fun y => ?_) (by rw [hie] at hb0; omega)]
      rw [hie] at hb0
      constructor
      · intro hy
        obtain ⟨s2, a1, a2, a3⟩ := (hm y).1 (List.mem_cons_of_mem _ hy)
        refine ⟨s2, a1, ?_, a3⟩
        unfold cameAt at a2 ⊢
        simp only [Bool.and_eq_true, decide_eq_true_eq] at a2 ⊢
        refine ⟨?_, a2.2⟩
        rw [a3]
        exact hlt y hy
      · rintro ⟨s2, a1, a2, a3⟩
        unfold cameAt at a2
        simp only [Bool.and_eq_true, decide_eq_true_eq] at a2
        have hmem := (hm y).2 ⟨s2, a1, by unfold cameAt; simp only [Bool.and_eq_true, decide_eq_true_eq]; exact ⟨by omega, a2.2⟩, a3⟩
        rcases List.mem_cons.1 hmem with h | h
        · rw [a3, h] at a2
          omega
        · exact h
theorem btw_came {t : Tree} {b : Batch} (h : (nextT t b).e = 0) : btwE t.Roster (nextT t b).t.Roster 65 0 = joinE t b := by
  have hR := nx_roster h
  have hp := came_perm h
  have hlen : (joinE t b).length ≤ 64 := by
    have := (nextT_joined h).2.2.1
    simp [joinE]; omega
  refine btw_all (fun i j hi hj he h0 => hR.base i j hi hj (isOn_iff.2 h0) (isOn_iff.2 (by rw [← he]; exact h0)) he) (joinE t b) 64 0 hlen joinE_lt (fun x => ?_) (Int.le_refl _)
  rw [← hp.mem_iff, mem_cameL]
  constructor
  · rintro ⟨s, hs, hne, hon, rfl⟩
    refine ⟨s, hs, ?_, rfl⟩
    unfold cameAt
    simp only [Bool.and_eq_true, decide_eq_true_eq, Bool.not_eq_true', decide_eq_false_iff_not]
    refine ⟨?_, fun h => hne h.symm⟩
    have h1 := isOn_iff.1 hon
    rcases hR.one s hs with hz | hg
    · rw [hz] at h1; exact absurd rfl h1
    · have := goodE_iff.1 hg
      omega
  · rintro ⟨s, hs, hc, rfl⟩
    unfold cameAt at hc
    simp only [Bool.and_eq_true, decide_eq_true_eq, Bool.not_eq_true', decide_eq_false_iff_not] at hc
    exact ⟨s, hs, fun h => hc.2 h.symm, isOn_iff.2 (by omega), rfl⟩
def leadsT (a t : Tree) : Prop := ∃ b, (nextT a b).e = 0 ∧ (nextT a b).t = t
theorem btw_leads {a t : Tree} : ((nextT a (btwB a t)).e = 0 ∧ (nextT a (btwB a t)).t = t) ↔ leadsT a t := by
  constructor
  · intro h; exact ⟨_, h⟩
  · rintro ⟨b, h, rfl⟩
    have hb := btw_came h
    refine came_leads h (l := btwE a.Roster (nextT a b).t.Roster 65 0) rfl rfl ?_ ?_
    · rw [hb]; exact (came_perm h).symm
    · exact (btw_grow 65 0).2.1.imp fun h => by omega
theorem step_is_leads {a t : Tree} : stepB a t = true ↔ leadsT a t := by
  constructor
  · intro h; exact ⟨_, step_of h⟩
  · rintro ⟨b, h, rfl⟩; exact step_leads h
theorem btw_step (a t : Tree) : (decide ((nextT a (btwB a t)).e = 0) && decide ((nextT a (btwB a t)).t = t)) = stepB a t := by
  apply bool_eq
  rw [step_is_leads, ← btw_leads]
  simp

/-! ### RowRight -/
theorem rowright_loop (a : List Tree) (ha : a.length ≤ 9000000000000000000) : ∀ (r : List Tree) (i : Nat) (p : Tree), a.drop i = p :: r →
    lfp g_ref12_RowRight_r1 ((a, ((i + 1 : Nat) : Int), ()), (), ()) = some (bif chainB p r then Sum.inr ((), (), ()) else Sum.inl ((false, ()), (), ()))
  | [], i, p, hp => by
    obtain ⟨hl2, hx2, hr2⟩ := lat_drop hp
    have hl : a.length ≤ i + 1 := List.drop_eq_nil_iff.1 hr2
    refine lfp_inr ?_
    have k1 : decide (((i + 1 : Nat) : Int) < (a.length : Int)) = false := decide_eq_false (by omega)
    simp only [g_ref12_RowRight_r1, k1, cond_false, chainB, cond_true]
  | t :: r, i, p, hp => by
    obtain ⟨hl2, hx2, hr2⟩ := lat_drop hp
    obtain ⟨hl, hx, hr⟩ := lat_drop hr2
    have k1 : decide (((i + 1 : Nat) : Int) < (a.length : Int)) = true := decide_eq_true (by omega)
    have k2 : decide ((i : Int) < (a.length : Int)) = true := decide_eq_true (by omega)
    have w1 : IntKind.wrap IntKind.i64 (((i + 1 : Nat) : Int) - 1) = (i : Int) := by rw [i64_in _ (by omega)]; omega
    have hi2 : IntKind.i64.wrap (((i + 1 : Nat) : Int) + 1) = ((i + 1 + 1 : Nat) : Int) := by rw [i64_in _ (by omega)]; omega
    have ih := rowright_loop a ha r (i + 1) t hr2
    simp only [chainB]
    rw [← btw_step]
    cases h1 : decide ((nextT p (btwB p t)).e = 0) with
    | false =>
      exact lfp_inr (by simp only [g_ref12_RowRight_r1, k1, k2, w1, hx, hx2, h1, Int.natCast_nonneg, decide_true, Bool.and_self, cond_true, Bool.not_false, Bool.false_and, cond_false])
    | true =>
      cases h2 : decide ((nextT p (btwB p t)).t = t) with
      | false =>
        exact lfp_inr (by simp only [g_ref12_RowRight_r1, k1, k2, w1, hx, hx2, h1, h2, Int.natCast_nonneg, decide_true, Bool.and_self, cond_true, Bool.not_false, Bool.not_true, Bool.false_and, Bool.and_false, cond_false])
      | true =>
        rw [lfp_inl (x' := ((a, ((i + 1 + 1 : Nat) : Int), ()), (), ())) (by simp only [g_ref12_RowRight_r1, k1, k2, w1, hx, hx2, h1, h2, hi2, Int.natCast_nonneg, decide_true, Bool.and_self, cond_true, Bool.not_true, cond_false]), ih]
        rfl
theorem eq_ref12_RowRight : Eqs c_ref12_RowRight g_ref12_RowRight := Eqs.tot fun (a, _) hf => by
  change List Tree at a
  have ha : a.length * 1888 ≤ 140737488355328 := (Fine.list.1 hf.1).1
  show g_ref12_RowRight (a, ()) = some (rightR a, ())
  cases a with
  | nil => rfl
  | cons t r =>
    have k0 : decide ((((t :: r : List Tree).length : Nat) : Int) = 0) = false := decide_eq_false (by simp only [List.length_cons]; omega)
    have k1 : decide ((0 : Int) < (((t :: r : List Tree).length : Nat) : Int)) = true := decide_eq_true (by simp only [List.length_cons]; omega)
    have k4 : lat (t :: r) 0 = t := rfl
    simp only [g_ref12_RowRight, k0, k1, k4, cond_false, cond_true]
    have hlp := rowright_loop (t :: r) (by omega) r 0 t rfl
    rw [show lfp g_ref12_RowRight_r1 ((t :: r, 1, ()), (), ()) = _ from hlp]
    show _ = some (decide (t = startT) && chainB t r, ())
    cases decide (t = startT) with
    | false => rfl
    | true => cases chainB t r <;> rfl

/-! ### RowOn, RowExcused -/
theorem eq_ref12_RowOn : Eqs c_ref12_RowOn g_ref12_RowOn := Eqs.tot fun (row, who, fr, to, _) hf => by
  change List Tree at row; change Int at who; change Int at fr; change Int at to
  have ha : row.length * 1888 ≤ 140737488355328 := (Fine.list.1 hf.1).1
  show g_ref12_RowOn (row, who, fr, to, ()) = some (onR row who fr to, ())
  unfold onR
  by_cases h1 : fr < 0
  · have d2 : decide (0 ≤ fr) = false := decide_eq_false (by omega)
    simp only [g_ref12_RowOn, decide_eq_true h1, d2, cond_true, Bool.false_and]
  by_cases h3 : (row.length : Int) ≤ to
  · have d2 : decide (to < (row.length : Int)) = false := decide_eq_false (by omega)
    simp only [g_ref12_RowOn, decide_eq_false h1, decide_eq_true h3, d2, cond_true, cond_false, Bool.and_false, Bool.false_and]
  by_cases h2 : to < fr
  · have d2 : decide (fr ≤ to) = false := decide_eq_false (by omega)
    simp only [g_ref12_RowOn, decide_eq_false h1, decide_eq_false h3, decide_eq_true h2, d2, cond_true, cond_false, Bool.and_false, Bool.false_and]
  obtain ⟨f, rfl⟩ : ∃ f : Nat, fr = f := ⟨fr.toNat, by omega⟩
  obtain ⟨n, rfl⟩ : ∃ n : Nat, to = n := ⟨to.toNat, by omega⟩
  have d3 : decide ((f : Int) ≤ (n : Int)) = true := decide_eq_true (by omega)
  have d4 : decide ((n : Int) < (row.length : Int)) = true := decide_eq_true (by omega)
  have d5 : ((n : Int) - (f : Int) + 1).toNat = n + 1 - f := by omega
  simp only [g_ref12_RowOn, decide_eq_false h1, decide_eq_false h2, decide_eq_false h3, d3, d4, d5, Int.natCast_nonneg, decide_true, Bool.and_self, cond_false, Bool.true_and]
  rw [lfp_all' (fun i => ((row, who, (n : Int), (f : Int) + (i : Int), ()), (), ())) (n + 1 - f) (fun i => decide (0 ≤ findR (lat row ((f : Int) + (i : Int))).Roster who)) (Sum.inl ((false, ()), (), ())) (Sum.inr ((), (), ())) (by simp) (fun i hi h => by
      have k1 : decide ((f : Int) + (i : Int) ≤ (n : Int)) = true := decide_eq_true (by omega)
      have k3 : decide (0 ≤ (f : Int) + (i : Int)) = true := decide_eq_true (by omega)
      have k4 : decide ((f : Int) + (i : Int) < (row.length : Int)) = true := decide_eq_true (by omega)
      have hi2 : IntKind.i64.wrap ((f : Int) + (i : Int) + 1) = (f : Int) + ((i + 1 : Nat) : Int) := by rw [i64_in _ (by omega)]; omega
      have k2 : decide (findR (lat row ((f : Int) + (i : Int))).Roster who < 0) = false := decide_eq_false (by have := of_decide_eq_true h; omega)
      simp only [g_ref12_RowOn_r1, k1, k2, k3, k4, hi2, Bool.and_self, cond_true, cond_false]) (fun i hi h => by
      have k1 : decide ((f : Int) + (i : Int) ≤ (n : Int)) = true := decide_eq_true (by omega)
      have k3 : decide (0 ≤ (f : Int) + (i : Int)) = true := decide_eq_true (by omega)
      have k4 : decide ((f : Int) + (i : Int) < (row.length : Int)) = true := decide_eq_true (by omega)
      have k2 : decide (findR (lat row ((f : Int) + (i : Int))).Roster who < 0) = true := decide_eq_true (by have := of_decide_eq_false h; omega)
      simp only [g_ref12_RowOn_r1, k1, k2, k3, k4, Bool.and_self, cond_true]) (by
      have k1 : decide ((f : Int) + ((n + 1 - f : Nat) : Int) ≤ (n : Int)) = false := decide_eq_false (by omega)
      simp only [g_ref12_RowOn_r1, k1, cond_false])]
  cases allN (n + 1 - f) (fun i => decide (0 ≤ findR (lat row ((f : Int) + (i : Int))).Roster who)) <;> rfl
theorem exc_out {row : List Tree} {seen : List Reveal} {e v : Int} (h : ¬ (0 ≤ e ∧ e < (row.length : Int))) : excR row seen e v = false := by
  unfold excR
  have : (seen.any fun x => onR row x.Who x.Epoch e && below v (leaf (findR (lat row e).Roster x.Who))) = false := by
    rw [List.any_eq_false]
    intro x _ hx
    rw [Bool.and_eq_true] at hx
    obtain ⟨a1, a2, a3⟩ := onR_in hx.1
    exact h ⟨by omega, a3⟩
  rw [this, Bool.and_false]
theorem eq_ref12_RowExcused : Eqs c_ref12_RowExcused g_ref12_RowExcused := Eqs.tot fun (row, seen, e, v, _) hf => by
  change List Tree at row; change List Reveal at seen; change Int at e; change Int at v
  have hs : seen.length * 16 ≤ 140737488355328 := (Fine.list.1 hf.2.1).1
  show g_ref12_RowExcused (row, seen, e, v, ()) = some (excR row seen e v, ())
  by_cases h3 : e < 0
  · rw [exc_out (by omega)]
    simp only [g_ref12_RowExcused, decide_eq_true h3, cond_true]
  by_cases h4 : (row.length : Int) ≤ e
  · rw [exc_out (by omega)]
    simp only [g_ref12_RowExcused, decide_eq_false h3, decide_eq_true h4, cond_true, cond_false]
  unfold excR
  by_cases h1 : v < 0
  · have d2 : decide (0 ≤ v) = false := decide_eq_false (by omega)
    simp only [g_ref12_RowExcused, decide_eq_false h3, decide_eq_false h4, decide_eq_true h1, d2, cond_true, cond_false, Bool.false_and]
  by_cases h2 : 21 ≤ v
  · have d2 : decide (v < 21) = false := decide_eq_false (by omega)
    simp only [g_ref12_RowExcused, decide_eq_false h3, decide_eq_false h4, decide_eq_false h1, decide_eq_true h2, d2, cond_true, cond_false, Bool.and_false, Bool.false_and]
  have d1 : decide (0 ≤ v) = true := decide_eq_true (by omega)
  have d2 : decide (v < 21) = true := decide_eq_true (by omega)
  have e1 : decide (0 ≤ e) = true := decide_eq_true (by omega)
  have e2 : decide (e < (row.length : Int)) = true := decide_eq_true (by omega)
  simp only [g_ref12_RowExcused, decide_eq_false h3, decide_eq_false h4, decide_eq_false h1, decide_eq_false h2, d1, d2, cond_false, Bool.and_self, Bool.true_and]
  have hlp := lfp_find (f := g_ref12_RowExcused_r1) (fun i => ((row, e, v, seen, (seen.length : Int), (i : Int), ()), (), ())) seen.length (fun i => excAt row e v (lat seen (i : Int))) (fun _ => Sum.inl ((true, ()), (), ())) (Sum.inr ((), (), ())) (fun i hi hb => by
      have k1 : decide ((i : Int) < (seen.length : Int)) = true := decide_eq_true (by omega)
      have hi2 : IntKind.i64.wrap ((i : Int) + 1) = ((i + 1 : Nat) : Int) := by rw [i64_in _ (by omega)]; omega
      unfold excAt at hb
      cases ho : onR row (lat seen (i : Int)).Who (lat seen (i : Int)).Epoch e with
      | false => simp only [g_ref12_RowExcused_r1, k1, ho, hi2, Int.natCast_nonneg, decide_true, Bool.and_self, cond_true, Bool.not_false]
      | true =>
        rw [ho, Bool.true_and] at hb
        simp only [g_ref12_RowExcused_r1, k1, e1, e2, ho, hb, hi2, Int.natCast_nonneg, decide_true, Bool.and_self, cond_true, cond_false, Bool.not_true]) (fun i hi hb => by
      have k1 : decide ((i : Int) < (seen.length : Int)) = true := decide_eq_true (by omega)
      unfold excAt at hb
      rw [Bool.and_eq_true] at hb
      simp only [g_ref12_RowExcused_r1, k1, e1, e2, hb.1, hb.2, Int.natCast_nonneg, decide_true, Bool.and_self, cond_true, cond_false, Bool.not_true]) (by
      have k1 : decide ((seen.length : Int) < (seen.length : Int)) = false := decide_eq_false (by omega)
      simp only [g_ref12_RowExcused_r1, k1, cond_false])
  rw [show lfp g_ref12_RowExcused_r1 ((row, e, v, seen, (seen.length : Int), 0, ()), (), ()) = _ from hlp, Option.bind_some, any_at]
  cases hfs : fstN seen.length (fun i => excAt row e v (lat seen (i : Int))) 0 with
  | some i =>
    obtain ⟨_, hi, hb, _⟩ := fstN_some hfs
    have : anyN seen.length (fun i => excAt row e v (lat seen (i : Int))) = true := anyN_iff.2 ⟨i, by omega, hb⟩
    show some (true, ()) = some (anyN seen.length (fun i => excAt row e v (lat seen (i : Int))), ())
    rw [this]
  | none =>
    have hn := fstN_none hfs
    have : anyN seen.length (fun i => excAt row e v (lat seen (i : Int))) = false := Bool.eq_false_iff.2 fun h => by
      obtain ⟨i, hi, hb⟩ := anyN_iff.1 h
      rw [hn i (Nat.zero_le _) (by omega)] at hb
      cases hb
    show some (false, ()) = some (anyN seen.length (fun i => excAt row e v (lat seen (i : Int))), ())
    rw [this]

/-! ### The same -/
theorem same_all {α : Type} [Inhabited α] [DecidableEq α] {a b : List α} (h : a.length = b.length) : allN a.length (fun i => decide (lat a (i : Int) = lat b (i : Int))) = decide (a = b) := by
  apply bool_eq
  rw [allN_iff, decide_eq_true_eq]
  constructor
  · intro hi
    refine List.ext_getElem h fun i h1 h2 => ?_
    have := hi i h1
    rw [decide_eq_true_eq, lat_nat a i h1, lat_nat b i h2] at this
    exact this
  · rintro rfl i hi
    simp
theorem eq_ref22_Same : Eqs c_ref22_Same g_ref22_Same := Eqs.tot fun (a, b, _) hf => by
  change List Reveal at a; change List Reveal at b
  have ha : a.length * 16 ≤ 140737488355328 := (Fine.list.1 hf.1).1
  show g_ref22_Same (a, b, ()) = some (decide (a = b), ())
  by_cases hl : a.length = b.length
  case neg =>
    have d1 : decide ((a.length : Int) = (b.length : Int)) = false := decide_eq_false (by omega)
    have d2 : decide (a = b) = false := decide_eq_false (by rintro rfl; exact hl rfl)
    simp only [g_ref22_Same, d1, d2, Bool.not_false, cond_true]
  have d1 : decide ((a.length : Int) = (b.length : Int)) = true := decide_eq_true (by omega)
  have hlp := lfp_all (f := g_ref22_Same_r1) (fun i => ((a, b, (a.length : Int), (i : Int), ()), (), ())) a.length (fun i => decide (lat a (i : Int) = lat b (i : Int))) (Sum.inl ((false, ()), (), ())) (Sum.inr ((), (), ())) (fun i hi h => by
      have k1 : decide ((i : Int) < (a.length : Int)) = true := decide_eq_true (by omega)
      have k2 : decide ((i : Int) < (b.length : Int)) = true := decide_eq_true (by omega)
      have hi2 : IntKind.i64.wrap ((i : Int) + 1) = ((i + 1 : Nat) : Int) := by rw [i64_in _ (by omega)]; omega
      simp only [g_ref22_Same_r1, k1, k2, h, hi2, Int.natCast_nonneg, decide_true, Bool.and_self, cond_true, cond_false, Bool.not_true]) (fun i hi h => by
      have k1 : decide ((i : Int) < (a.length : Int)) = true := decide_eq_true (by omega)
      have k2 : decide ((i : Int) < (b.length : Int)) = true := decide_eq_true (by omega)
      simp only [g_ref22_Same_r1, k1, k2, h, Int.natCast_nonneg, decide_true, Bool.and_self, cond_true, Bool.not_false]) (by
      have k1 : decide ((a.length : Int) < (a.length : Int)) = false := decide_eq_false (by omega)
      simp only [g_ref22_Same_r1, k1, cond_false])
  simp only [g_ref22_Same, d1, Bool.not_true, cond_false]
  rw [show lfp g_ref22_Same_r1 ((a, b, (a.length : Int), 0, ()), (), ()) = _ from hlp, same_all hl]
  cases decide (a = b) <;> rfl
theorem eq_ref22_SameRow : Eqs c_ref22_SameRow g_ref22_SameRow := Eqs.tot fun (a, b, _) hf => by
  change List Tree at a; change List Tree at b
  have ha : a.length * 1888 ≤ 140737488355328 := (Fine.list.1 hf.1).1
  show g_ref22_SameRow (a, b, ()) = some (decide (a = b), ())
  by_cases hl : a.length = b.length
  case neg =>
    have d1 : decide ((a.length : Int) = (b.length : Int)) = false := decide_eq_false (by omega)
    have d2 : decide (a = b) = false := decide_eq_false (by rintro rfl; exact hl rfl)
    simp only [g_ref22_SameRow, d1, d2, Bool.not_false, cond_true]
  have d1 : decide ((a.length : Int) = (b.length : Int)) = true := decide_eq_true (by omega)
  have hlp := lfp_all (f := g_ref22_SameRow_r1) (fun i => ((a, b, (a.length : Int), (i : Int), ()), (), ())) a.length (fun i => decide (lat a (i : Int) = lat b (i : Int))) (Sum.inl ((false, ()), (), ())) (Sum.inr ((), (), ())) (fun i hi h => by
      have k1 : decide ((i : Int) < (a.length : Int)) = true := decide_eq_true (by omega)
      have k2 : decide ((i : Int) < (b.length : Int)) = true := decide_eq_true (by omega)
      have hi2 : IntKind.i64.wrap ((i : Int) + 1) = ((i + 1 : Nat) : Int) := by rw [i64_in _ (by omega)]; omega
      simp only [g_ref22_SameRow_r1, k1, k2, h, hi2, Int.natCast_nonneg, decide_true, Bool.and_self, cond_true, cond_false, Bool.not_true]) (fun i hi h => by
      have k1 : decide ((i : Int) < (a.length : Int)) = true := decide_eq_true (by omega)
      have k2 : decide ((i : Int) < (b.length : Int)) = true := decide_eq_true (by omega)
      simp only [g_ref22_SameRow_r1, k1, k2, h, Int.natCast_nonneg, decide_true, Bool.and_self, cond_true, Bool.not_false]) (by
      have k1 : decide ((a.length : Int) < (a.length : Int)) = false := decide_eq_false (by omega)
      simp only [g_ref22_SameRow_r1, k1, cond_false])
  simp only [g_ref22_SameRow, d1, Bool.not_true, cond_false]
  rw [show lfp g_ref22_SameRow_r1 ((a, b, (a.length : Int), 0, ()), (), ()) = _ from hlp, same_all hl]
  cases decide (a = b) <;> rfl
theorem eq_ref22_SameErrors : Eqs c_ref22_SameErrors g_ref22_SameErrors := Eqs.tot fun (a, b, _) hf => by
  change List Int at a; change List Int at b
  have ha : a.length * 8 ≤ 140737488355328 := (Fine.list.1 hf.1).1
  show g_ref22_SameErrors (a, b, ()) = some (decide (a = b), ())
  by_cases hl : a.length = b.length
  case neg =>
    have d1 : decide ((a.length : Int) = (b.length : Int)) = false := decide_eq_false (by omega)
    have d2 : decide (a = b) = false := decide_eq_false (by rintro rfl; exact hl rfl)
    simp only [g_ref22_SameErrors, d1, d2, Bool.not_false, cond_true]
  have d1 : decide ((a.length : Int) = (b.length : Int)) = true := decide_eq_true (by omega)
  have hlp := lfp_all (f := g_ref22_SameErrors_r1) (fun i => ((a, b, (a.length : Int), (i : Int), ()), (), ())) a.length (fun i => decide (lat a (i : Int) = lat b (i : Int))) (Sum.inl ((false, ()), (), ())) (Sum.inr ((), (), ())) (fun i hi h => by
      have k1 : decide ((i : Int) < (a.length : Int)) = true := decide_eq_true (by omega)
      have k2 : decide ((i : Int) < (b.length : Int)) = true := decide_eq_true (by omega)
      have hi2 : IntKind.i64.wrap ((i : Int) + 1) = ((i + 1 : Nat) : Int) := by rw [i64_in _ (by omega)]; omega
      simp only [g_ref22_SameErrors_r1, k1, k2, h, hi2, Int.natCast_nonneg, decide_true, Bool.and_self, cond_true, cond_false, Bool.not_true]) (fun i hi h => by
      have k1 : decide ((i : Int) < (a.length : Int)) = true := decide_eq_true (by omega)
      have k2 : decide ((i : Int) < (b.length : Int)) = true := decide_eq_true (by omega)
      simp only [g_ref22_SameErrors_r1, k1, k2, h, Int.natCast_nonneg, decide_true, Bool.and_self, cond_true, Bool.not_false]) (by
      have k1 : decide ((a.length : Int) < (a.length : Int)) = false := decide_eq_false (by omega)
      simp only [g_ref22_SameErrors_r1, k1, cond_false])
  simp only [g_ref22_SameErrors, d1, Bool.not_true, cond_false]
  rw [show lfp g_ref22_SameErrors_r1 ((a, b, (a.length : Int), 0, ()), (), ()) = _ from hlp, same_all hl]
  cases decide (a = b) <;> rfl
theorem eq_ref22_Play : Eqs c_ref22_Play g_ref22_Play := Eqs.tot fun (_, _) _ => rfl
theorem eq_ref22_Right : Eqs c_ref22_Right g_ref22_Right := Eqs.tot fun (_, _) _ => rfl
theorem eq_ref22_On : Eqs c_ref22_On g_ref22_On := Eqs.tot fun (_, _, _, _, _) _ => rfl
theorem eq_ref22_Excused : Eqs c_ref22_Excused g_ref22_Excused := Eqs.tot fun (_, _, _, _, _) _ => rfl
end Go.Co.N
end

section
namespace Go.Co.N
open Go Go.Co Go.Proofs Go.Sort

def g_rborn_r2 : (Unit × Unit × Int × Unit) × (Tree × Unit) × List (Int × Int) × Unit → Option (((Unit × Unit × Int × Unit) × (Tree × Unit) × List (Int × Int) × Unit) ⊕ ((Unit × Unit × Unit) × (Tree × Unit) × List (Int × Int) × Unit))
  | ((_, _, a, _), (b, _), c, _) => bif decide (a < 21) then bif decide (0 ≤ a) && decide (a < 21) then some (Sum.inl (((), (), IntKind.wrap IntKind.i64 (a + 1), ()), (b, ()), mput c (Arr.get b.Keys a).Base 1, ())) else none else some (Sum.inr (((), (), ()), (b, ()), c, ()))
def g_rborn_r3 : (Unit × Unit × Int × Unit) × (Tree × Unit) × List (Int × Int) × Unit → Option (((Unit × Unit × Int × Unit) × (Tree × Unit) × List (Int × Int) × Unit) ⊕ ((Unit × Unit) × (Tree × Unit) × List (Int × Int) × Unit))
  | ((_, _, a, _), (b, _), c, _) => bif decide (a < 64) then bif decide (0 ≤ a) && decide (a < 64) then bif !decide ((Arr.get b.Roster a).Base = 0) then bif decide (0 ≤ a) && decide (a < 64) then some (Sum.inl (((), (), IntKind.wrap IntKind.i64 (a + 1), ()), (b, ()), mput c (Arr.get b.Roster a).Base 1, ())) else none else some (Sum.inl (((), (), IntKind.wrap IntKind.i64 (a + 1), ()), (b, ()), c, ())) else none else some (Sum.inr (((), ()), (b, ()), c, ()))
def g_rborn_r4 : (List Reveal × Unit × Int × Unit × Unit × Int × List Tree × Int × Int × Unit) × (Tree × Unit) × List (Int × Int) × List (Int × Int) × Unit → Option (((List Reveal × Unit × Int × Unit × Unit × Int × List Tree × Int × Int × Unit) × (Tree × Unit) × List (Int × Int) × List (Int × Int) × Unit) ⊕ ((List Reveal × Unit × List Tree × Int × Int × Unit) × (Tree × Unit) × List (Int × Int) × Unit))
  | ((xs, _, i, _, _, c, d, e, f, _), (g, _), lw, ln, _) => bif decide (c < g.Fresh) then bif decide (Option.getD (mget ln c) 0 = 1) then bif decide (Option.getD (mget lw c) 0 = 0) then bif decide ((List.length xs + 1) * 16 ≤ 140737488355328) then some (Sum.inl ((List.append xs [Reveal.mk c i], (), i, (), (), IntKind.wrap IntKind.i64 (c + 1), d, e, f, ()), (g, ()), lw, ln, ())) else none else some (Sum.inl ((xs, (), i, (), (), IntKind.wrap IntKind.i64 (c + 1), d, e, f, ()), (g, ()), lw, ln, ())) else some (Sum.inl ((xs, (), i, (), (), IntKind.wrap IntKind.i64 (c + 1), d, e, f, ()), (g, ()), lw, ln, ())) else some (Sum.inr ((xs, (), d, e, f, ()), (g, ()), ln, ()))
noncomputable def g_rborn_r1 : (List Reveal × List (Int × Int) × List Tree × Int × Int × Unit) × Unit × Unit → Option (((List Reveal × List (Int × Int) × List Tree × Int × Int × Unit) × Unit × Unit) ⊕ ((List Reveal × Unit) × Unit × Unit))
  | ((xs, lw, a, b, c, _), _, _) => bif decide (c < b) then bif decide (0 ≤ c) && decide (c < (a.length : Int)) then Option.bind (lfp g_rborn_r2 (((), (), 0, ()), (lat a c, ()), [], ())) fun z => Option.bind (lfp g_rborn_r3 (((), (), 0, ()), (z.snd.fst.fst, ()), z.snd.snd.fst, ())) fun z => Option.bind (lfp g_rborn_r4 ((xs, (), c, (), (), 1, a, b, c, ()), (lat a c, ()), lw, z.snd.snd.fst, ())) fun z => some (Sum.inl ((z.1.1, z.2.2.1, z.1.2.2.1, z.1.2.2.2.1, IntKind.wrap IntKind.i64 (z.1.2.2.2.2.1 + 1), ()), (), ())) else none else some (Sum.inr ((xs, ()), (), ()))
noncomputable def g_ref12_RowBorn : List Tree × Unit → Option (List Reveal × Unit)
  | (a, _) => bif !rightR a then some ([], ()) else Option.bind (lfp g_rborn_r1 (([], [], a, (a.length : Int), 0, ()), (), ())) fun z => some (z.1.1, ())

/-! ### The map of names, each told once -/
def keysO (t : Tree) : Nat → List (Int × Int)
  | 0 => []
  | v + 1 => mput (keysO t v) (bas t.Keys v) 1
def rostO (t : Tree) : Nat → List (Int × Int)
  | 0 => keysO t 21
  | s + 1 => bif !decide ((ent t.Roster s).Base = 0) then mput (rostO t s) (ent t.Roster s).Base 1 else rostO t s
theorem keysO_get (t : Tree) (b : Int) : ∀ v : Nat, mget (keysO t v) b = if ∃ w : Nat, w < v ∧ bas t.Keys w = b then some 1 else none
  | 0 => by
    rw [if_neg]
    · rfl
    · rintro ⟨w, hw, _⟩; omega
  | v + 1 => by
    simp only [keysO, mget_mput, keysO_get t b v]
    by_cases h : bas t.Keys v = b
    · rw [if_pos h, if_pos ⟨v, by omega, h⟩]
    · rw [if_neg h]
      by_cases h2 : ∃ w : Nat, w < v ∧ bas t.Keys w = b
      · obtain ⟨w, h3, h4⟩ := h2
        rw [if_pos ⟨w, h3, h4⟩, if_pos ⟨w, by omega, h4⟩]
      · rw [if_neg h2, if_neg]
        rintro ⟨w, h3, h4⟩
        by_cases he : w = v
        · subst he; exact h h4
        · exact h2 ⟨w, by omega, h4⟩
theorem rostO_get (t : Tree) (b : Int) : ∀ s : Nat, mget (rostO t s) b = if (∃ v : Nat, v < 21 ∧ bas t.Keys v = b) ∨ ∃ w : Nat, w < s ∧ isOn t.Roster w = true ∧ (ent t.Roster w).Base = b then some 1 else none
  | 0 => by
    simp only [rostO, keysO_get]
    by_cases h : ∃ v : Nat, v < 21 ∧ bas t.Keys v = b
    · rw [if_pos h, if_pos (.inl h)]
    · rw [if_neg h, if_neg]
      rintro (h2 | ⟨w, hw, _⟩)
      · exact h h2
      · omega
  | s + 1 => by
    by_cases h0 : (ent t.Roster s).Base = 0
    · have e : rostO t (s + 1) = rostO t s := by simp [rostO, h0]
      rw [e, rostO_get t b s]
      congr 1
      refine propext ⟨fun h => h.imp_right fun ⟨w, hw, h⟩ => ⟨w, by omega, h⟩, fun h => h.imp_right fun ⟨w, hw, hon, h⟩ => ⟨w, ?_, hon, h⟩⟩
      by_cases he : w = s
      · subst he; exact absurd h0 (isOn_iff.1 hon)
      · omega
    · have e : rostO t (s + 1) = mput (rostO t s) (ent t.Roster s).Base 1 := by simp [rostO, h0]
      rw [e, mget_mput, rostO_get t b s]
      by_cases h : (ent t.Roster s).Base = b
      · rw [if_pos h, if_pos (.inr ⟨s, by omega, isOn_iff.2 h0, h⟩)]
      · rw [if_neg h]
        congr 1
        refine propext ⟨fun h => h.imp_right fun ⟨w, hw, h⟩ => ⟨w, by omega, h⟩, fun h2 => h2.imp_right fun ⟨w, hw, hon, h3⟩ => ⟨w, ?_, hon, h3⟩⟩
        by_cases he : w = s
        · subst he; exact absurd h3 h
        · omega
def nameO (t : Tree) : List (Int × Int) := rostO t 64
theorem nameO_yes {t : Tree} {b : Int} (h : hasN t b) : mget (nameO t) b = some 1 := (rostO_get t b 64).trans (if_pos h)
theorem nameO_no {t : Tree} {b : Int} (h : ¬ hasN t b) : mget (nameO t) b = none := (rostO_get t b 64).trans (if_neg h)
theorem nameO_one (t : Tree) (b : Int) : (mget (nameO t) b).getD 0 = 1 ↔ hasN t b := by
  by_cases h : hasN t b
  · rw [nameO_yes h]; simp [h]
  · rw [nameO_no h]; simp [h]
theorem nameO_zero (t : Tree) (b : Int) : (mget (nameO t) b).getD 0 = 0 ↔ ¬ hasN t b := by
  by_cases h : hasN t b
  · rw [nameO_yes h]; simp [h]
  · rw [nameO_no h]; simp [h]
theorem rborn_keys (t : Tree) : lfp g_rborn_r2 (((), (), 0, ()), (t, ()), [], ()) = some (((), (), ()), (t, ()), keysO t 21, ()) := by
  rw [lfp_run' (fun v => (((), (), (v : Int), ()), (t, ()), keysO t v, ())) 21 (by rfl) fun v hv => by
    have k1 : decide ((v : Int) < 21) = true := decide_eq_true (by omega)
    simp only [g_rborn_r2, k1, wrap1 v (by omega), Int.natCast_nonneg, decide_true, Bool.and_self, cond_true]
    rfl]
  exact lfp_inr (by simp only [g_rborn_r2]; rfl)
theorem rborn_rost (t : Tree) : lfp g_rborn_r3 (((), (), 0, ()), (t, ()), keysO t 21, ()) = some (((), ()), (t, ()), nameO t, ()) := by
  rw [lfp_run' (fun s => (((), (), (s : Int), ()), (t, ()), rostO t s, ())) 64 (by rfl) fun s hs => by
    have k1 : decide ((s : Int) < 64) = true := decide_eq_true (by omega)
    simp only [g_rborn_r3, k1, wrap1 s (by omega), Int.natCast_nonneg, decide_true, Bool.and_self, cond_true]
    by_cases h0 : (ent t.Roster s).Base = 0
    · simp [rostO, h0]
    · simp [rostO, h0]]
  exact lfp_inr (by simp only [g_rborn_r3]; rfl)
theorem bornAt_succ {f b i : Int} (h : f ≤ b) : bornAt f (b + 1) i = bornAt f b i ++ [⟨b, i⟩] := by
  unfold bornAt
  have e : (b + 1 - f).toNat = (b - f).toNat + 1 := by omega
  rw [e, List.range_succ, List.map_append, List.map_singleton]
  congr 3
  omega
theorem bornAt_none {f b i : Int} (h : b ≤ f) : bornAt f b i = [] := by
  unfold bornAt
  have e : (b - f).toNat = 0 := by omega
  rw [e]; rfl
theorem rborn_inner (t : Tree) (xs : List Reveal) (lw : List (Int × Int)) (f i : Int) (a : List Tree) (len idx : Int) (hx : (xs.length : Int) + 1 = f) (hF : 1 ≤ t.Fresh) (hF2 : t.Fresh ≤ 32768) (hfF : f ≤ 32768)
    (hk : ∀ n, (hasN t n ∧ (mget lw n).getD 0 = 0) ↔ (f ≤ n ∧ n < t.Fresh)) :
    lfp g_rborn_r4 ((xs, (), i, (), (), 1, a, len, idx, ()), (t, ()), lw, nameO t, ()) = some ((xs ++ bornAt f t.Fresh i, (), a, len, idx, ()), (t, ()), nameO t, ()) := by
  rw [lfp_run' (fun b => ((xs ++ bornAt f (1 + (b : Int)) i, (), i, (), (), 1 + (b : Int), a, len, idx, ()), (t, ()), lw, nameO t, ())) (t.Fresh - 1).toNat (by rw [bornAt_none (by omega)]; simp) fun b hb => by
    have k1 : decide (1 + (b : Int) < t.Fresh) = true := decide_eq_true (by omega)
    have w1 : IntKind.wrap IntKind.i64 (1 + (b : Int) + 1) = 1 + ((b + 1 : Nat) : Int) := by rw [i64_in _ (by omega)]; omega
    have hl : (xs ++ bornAt f (1 + (b : Int)) i).length ≤ 100000 := by rw [List.length_append, bornAt_len]; omega
    have k2 : decide (((xs ++ bornAt f (1 + (b : Int)) i).length + 1) * 16 ≤ 140737488355328) = true := decide_eq_true (by omega)
    simp only [g_rborn_r4, k1, k2, w1, cond_true]
    by_cases hf : f ≤ 1 + (b : Int)
    · obtain ⟨h1, h2⟩ := (hk (1 + (b : Int))).2 ⟨hf, by omega⟩
      rw [decide_eq_true ((nameO_one t _).2 h1), decide_eq_true h2]
      simp only [cond_true]
      rw [show (1 : Int) + ((b + 1 : Nat) : Int) = 1 + (b : Int) + 1 by omega, bornAt_succ hf, ← List.append_assoc]
      rfl
    · have e1 : bornAt f (1 + (b : Int)) i = [] := bornAt_none (by omega)
      have e2 : bornAt f (1 + ((b + 1 : Nat) : Int)) i = [] := bornAt_none (by omega)
      rw [e1, e2]
      by_cases h1 : hasN t (1 + (b : Int))
      · have h2 : ¬ (mget lw (1 + (b : Int))).getD 0 = 0 := fun h => by have := (hk _).1 ⟨h1, h⟩; omega
        rw [decide_eq_true ((nameO_one t _).2 h1), decide_eq_false h2]
        rfl
      · rw [decide_eq_false fun h => h1 ((nameO_one t _).1 h)]
        rfl]
  refine lfp_inr ?_
  have e : 1 + (((t.Fresh - 1).toNat : Nat) : Int) = t.Fresh := by omega
  have k1 : decide (t.Fresh < t.Fresh) = false := decide_eq_false (by omega)
  simp only [g_rborn_r4, e, k1, cond_false]
theorem rborn_step {a : List Tree} {t : Tree} {r : List Tree} {i : Nat} {xs : List Reveal} {lw : List (Int × Int)} {f : Int} (ha : a.length ≤ 9000000000000000000) (hd : a.drop i = t :: r) (hx : (xs.length : Int) + 1 = f) (hF : 1 ≤ t.Fresh) (hF2 : t.Fresh ≤ 32768) (hfF : f ≤ 32768)
    (hk : ∀ n, (hasN t n ∧ (mget lw n).getD 0 = 0) ↔ (f ≤ n ∧ n < t.Fresh)) :
    g_rborn_r1 ((xs, lw, a, (a.length : Int), (i : Int), ()), (), ()) = some (Sum.inl ((xs ++ bornAt f t.Fresh i, nameO t, a, (a.length : Int), ((i + 1 : Nat) : Int), ()), (), ())) := by
  obtain ⟨hl, hx2, hr⟩ := lat_drop hd
  have k1 : decide ((i : Int) < (a.length : Int)) = true := decide_eq_true (by omega)
  have hi2 : IntKind.i64.wrap ((i : Int) + 1) = ((i + 1 : Nat) : Int) := by rw [i64_in _ (by omega)]; omega
  simp only [g_rborn_r1, k1, hx2, Int.natCast_nonneg, decide_true, Bool.and_self, cond_true, rborn_keys, rborn_rost, Option.bind_some, rborn_inner t xs lw f i a (a.length : Int) (i : Int) hx hF hF2 hfF hk, hi2]
theorem rborn_loop (a : List Tree) (ha : a.length ≤ 9000000000000000000) : ∀ (r : List Tree) (i : Nat) (p : Tree) (xs : List Reveal), a.drop i = r → chainB p r = true → (xs.length : Int) + 1 = p.Fresh →
    lfp g_rborn_r1 ((xs, nameO p, a, (a.length : Int), (i : Int), ()), (), ()) = some ((xs ++ bornGo p.Fresh i r, ()), (), ())
  | [], i, p, xs, hd, _, _ => by
    have hl : a.length ≤ i := List.drop_eq_nil_iff.1 hd
    refine lfp_inr ?_
    have k1 : decide ((i : Int) < (a.length : Int)) = false := decide_eq_false (by omega)
    simp only [g_rborn_r1, k1, cond_false, bornGo, List.append_nil]
  | t :: r, i, p, xs, hd, hc, hx => by
    simp only [chainB, Bool.and_eq_true] at hc
    obtain ⟨he, ht⟩ := step_of hc.1
    have hroom := nx_room he
    have hfr := nx_fresh he
    have hcn := cntTo_le (replaced (nextT p (cameB p t)).left) 21
    rw [ht] at hroom hfr
    have hn := hasN_next he
    rw [ht] at hn
    rw [lfp_inl (rborn_step ha hd hx (by omega) hroom.1 (by omega) (fun n => by rw [nameO_zero]; exact hn n)), rborn_loop a ha r (i + 1) t _ (lat_drop hd).2.2 hc.2 (by rw [List.length_append, bornAt_len]; omega), bornGo_cons, List.append_assoc]
    rfl
theorem eq_ref12_RowBorn : Eqs c_ref12_RowBorn g_ref12_RowBorn := Eqs.tot fun (a, _) hf => by
  change List Tree at a
  have ha : a.length * 1888 ≤ 140737488355328 := (Fine.list.1 hf.1).1
  show g_ref12_RowBorn (a, ()) = some (bornR a, ())
  unfold bornR
  cases hr : rightR a with
  | false => simp only [g_ref12_RowBorn, hr, Bool.not_false, cond_true, cond_false]
  | true =>
    simp only [g_ref12_RowBorn, hr, Bool.not_true, cond_true, cond_false]
    cases a with
    | nil => cases hr
    | cons t r =>
      have hr2 : (decide (t = startT) && chainB t r) = true := hr
      rw [Bool.and_eq_true, decide_eq_true_eq] at hr2
      obtain ⟨rfl, hc⟩ := hr2
      have hl : (startT :: r).length ≤ 9000000000000000000 := by omega
      have s1 := rborn_step (a := startT :: r) (i := 0) (xs := []) (lw := []) (f := 1) hl rfl rfl (by decide) (by decide) (by decide) (fun n => by rw [hasN_start]; exact ⟨fun h => h.1, fun h => ⟨h, rfl⟩⟩)
      rw [show lfp g_rborn_r1 (([], [], startT :: r, ((startT :: r).length : Int), 0, ()), (), ()) = _ from (lfp_inl s1).trans (rborn_loop (startT :: r) hl r 1 startT _ rfl hc (by decide))]
      rfl
theorem eq_ref22_Born : Eqs c_ref22_Born g_ref22_Born := Eqs.tot fun (_, _) _ => rfl
end Go.Co.N
end

section
set_option maxRecDepth 100000
noncomputable section
namespace Go.Co.N
open Go Go.Co
def g_law22_HistoryPlays_r1 : (List Tree × List Int × List Tree × List Int × List Tree × List Int × Int × Int × Unit) × Unit × Unit → Option (((List Tree × List Int × List Tree × List Int × List Tree × List Int × Int × Int × Unit) × Unit × Unit) ⊕ ((List Tree × List Int × List Tree × List Int × List Tree × List Int × Unit) × Unit × Unit))
  | ((a, b, c, d, e, f, g, h, _), _, _) => bif decide (h < g) then bif decide (0 ≤ h) && decide (h < (↑(List.length a) : Int)) then some (Sum.inl ((lput a h (Tree.mk (-1) (lat a h).Fresh (lat a h).Keys (lat a h).Roster), b, c, d, e, f, g, IntKind.wrap IntKind.i64 (h + 1), ()), (), ())) else none else some (Sum.inr ((a, b, c, d, e, f, ()), (), ()))
def g_law22_HistoryPlays_r2 : (List Tree × List Int × List Tree × List Int × List Tree × List Int × Int × Int × Unit) × Unit × Unit → Option (((List Tree × List Int × List Tree × List Int × List Tree × List Int × Int × Int × Unit) × Unit × Unit) ⊕ ((List Tree × List Int × List Tree × List Int × List Tree × List Int × Unit) × Unit × Unit))
  | ((a, b, c, d, e, f, g, h, _), _, _) => bif decide (h < g) then bif decide (0 ≤ h) && decide (h < (↑(List.length b) : Int)) then some (Sum.inl ((a, lput b h (-1), c, d, e, f, g, IntKind.wrap IntKind.i64 (h + 1), ()), (), ())) else none else some (Sum.inr ((a, b, c, d, e, f, ()), (), ()))
/-- coterie/coterielaw22.HistoryPlays -/
def g_law22_HistoryPlays : List Batch × Unit → Option (Bool × Unit)
  | (a, _) => bif !decide (rowOfS a = rowOfS a) then some (false, ()) else bif !decide (rowOfS a = rowOfS a) then some (false, ()) else bif !decide (errsOfS a = errsOfS a) then some (false, ()) else bif !decide (errsOfS a = errsOfS a) then some (false, ()) else bif !rightR (rowOfS a) then some (false, ()) else Option.bind (lfp g_law22_HistoryPlays_r1 ((rowOfS a, errsOfS a, rowOfS a, errsOfS a, rowOfS a, errsOfS a, (↑(List.length (rowOfS a)) : Int), 0, ()), (), ())) fun z => Option.bind (lfp g_law22_HistoryPlays_r2 ((z.fst.fst, z.fst.snd.fst, z.fst.snd.snd.fst, z.fst.snd.snd.snd.fst, z.fst.snd.snd.snd.snd.fst, z.fst.snd.snd.snd.snd.snd.fst, (↑(List.length z.fst.snd.fst) : Int), 0, ()), (), ())) fun z => bif decide ((List.length z.fst.fst + 1) * 1888 ≤ 140737488355328) then bif decide ((List.length z.fst.snd.fst + 1) * 8 ≤ 140737488355328) then bif decide (z.fst.snd.snd.fst = z.fst.snd.snd.snd.snd.fst) then bif decide (z.fst.snd.snd.snd.fst = z.fst.snd.snd.snd.snd.snd.fst) then bif decide ((↑(List.length (List.append z.fst.fst [Tree.mk (-2) 0 (Vector.replicate 21 (St.zero St.key)) (Vector.replicate 64 (St.zero St.entry))])) : Int) = IntKind.wrap IntKind.i64 ((↑(List.length z.fst.snd.snd.snd.snd.fst) : Int) + 1)) then some (decide ((↑(List.length (List.append z.fst.snd.fst [-2])) : Int) = IntKind.wrap IntKind.i64 ((↑(List.length z.fst.snd.snd.snd.snd.snd.fst) : Int) + 1)), ()) else some (false, ()) else some (false, ()) else some (false, ()) else none else none
end Go.Co.N
end
end

section
set_option maxRecDepth 100000
noncomputable section
namespace Go.Co.N
open Go Go.Co
end Go.Co.N
end
end

section
namespace Go.Co.N
open Go Go.Co Go.Proofs Go.Sort

/-! ### HistoryReplaced -/
/-! ### HistoryExcuses -/
theorem chain_at : ∀ (r : List Tree) (p : Tree), chainB p r = true → ∀ (i : Nat) (a t : Tree), (p :: r)[i]? = some a → (p :: r)[i + 1]? = some t → stepB a t = true
  | [], p, _, i, a, t, _, h2 => by simp at h2
  | x :: r, p, h, i, a, t, h1, h2 => by
    simp only [chainB, Bool.and_eq_true] at h
    cases i with
    | zero =>
      simp only [List.getElem?_cons_zero, Option.some.injEq] at h1
      simp only [List.getElem?_cons_succ, List.getElem?_cons_zero, Option.some.injEq] at h2
      subst h1; subst h2
      exact h.1
    | succ i =>
      rw [List.getElem?_cons_succ] at h1
      rw [List.getElem?_cons_succ] at h2
      exact chain_at r x h.2 i a t h1 h2
end Go.Co.N
end

section
namespace Go.Co.N
open Go Go.Co Go.Proofs Go.Sort

theorem lput_len22 {α : Type} (l : List α) (i : Int) (x : α) : (lput l i x).length = l.length := by
  unfold lput
  simp
theorem plays_first (b : List Int) (c : List Tree) (d : List Int) (e : List Tree) (f : List Int) : ∀ (n : Nat) (i : Nat) (a : List Tree), a.length = i + n → a.length ≤ 201 →
    ∃ a' : List Tree, a'.length = a.length ∧ lfp g_law22_HistoryPlays_r1 ((a, b, c, d, e, f, (a.length : Int), (i : Int), ()), (), ()) = some ((a', b, c, d, e, f, ()), (), ())
  | 0, i, a, hn, _ => by
    refine ⟨a, rfl, lfp_inr ?_⟩
    have k1 : decide ((i : Int) < (a.length : Int)) = false := decide_eq_false (by omega)
    simp only [g_law22_HistoryPlays_r1, k1, cond_false]
  | n + 1, i, a, hn, hl => by
    have hq := lput_len22 a (i : Int) (Tree.mk (-1) (lat a (i : Int)).Fresh (lat a (i : Int)).Keys (lat a (i : Int)).Roster)
    obtain ⟨a', h1, h2⟩ := plays_first b c d e f n (i + 1) (lput a (i : Int) (Tree.mk (-1) (lat a (i : Int)).Fresh (lat a (i : Int)).Keys (lat a (i : Int)).Roster)) (by rw [hq]; omega) (by rw [hq]; exact hl)
    rw [hq] at h1 h2
    refine ⟨a', h1, (lfp_inl ?_).trans h2⟩
    have k1 : decide ((i : Int) < (a.length : Int)) = true := decide_eq_true (by omega)
    simp only [g_law22_HistoryPlays_r1, k1, wrap1 i (by omega), Int.natCast_nonneg, decide_true, Bool.and_self, cond_true]
theorem plays_second (a c : List Tree) (d : List Int) (e : List Tree) (f : List Int) : ∀ (n : Nat) (i : Nat) (b : List Int), b.length = i + n → b.length ≤ 9000000000000000000 →
    ∃ b' : List Int, b'.length = b.length ∧ lfp g_law22_HistoryPlays_r2 ((a, b, c, d, e, f, (b.length : Int), (i : Int), ()), (), ()) = some ((a, b', c, d, e, f, ()), (), ())
  | 0, i, b, hn, _ => by
    refine ⟨b, rfl, lfp_inr ?_⟩
    have k1 : decide ((i : Int) < (b.length : Int)) = false := decide_eq_false (by omega)
    simp only [g_law22_HistoryPlays_r2, k1, cond_false]
  | n + 1, i, b, hn, hl => by
    have hq := lput_len22 b (i : Int) (-1)
    obtain ⟨b', h1, h2⟩ := plays_second a c d e f n (i + 1) (lput b (i : Int) (-1)) (by rw [hq]; omega) (by rw [hq]; exact hl)
    rw [hq] at h1 h2
    refine ⟨b', h1, (lfp_inl ?_).trans h2⟩
    have k1 : decide ((i : Int) < (b.length : Int)) = true := decide_eq_true (by omega)
    have hi2 : IntKind.i64.wrap ((i : Int) + 1) = ((i + 1 : Nat) : Int) := by rw [i64_in _ (by omega)]; omega
    simp only [g_law22_HistoryPlays_r2, k1, hi2, Int.natCast_nonneg, decide_true, Bool.and_self, cond_true]
theorem eq_law22_HistoryPlays : Eqs c_law22_HistoryPlays g_law22_HistoryPlays := Eqs.tot fun (s, _) hf => by
  change List Batch at s
  have hs : s.length * 48 ≤ 140737488355328 := (Fine.list.1 hf.1).1
  show g_law22_HistoryPlays (s, ()) = some (true, ())
  have hl := row_len s
  have he : (errsOfS s).length = s.length := errs_len s startT
  obtain ⟨a', ha, h1⟩ := plays_first (errsOfS s) (rowOfS s) (errsOfS s) (rowOfS s) (errsOfS s) (rowOfS s).length 0 (rowOfS s) (by omega) hl
  obtain ⟨b', hb, h2⟩ := plays_second a' (rowOfS s) (errsOfS s) (rowOfS s) (errsOfS s) (errsOfS s).length 0 (errsOfS s) (by omega) (by omega)
  have k1 : decide ((a'.length + 1) * 1888 ≤ 140737488355328) = true := decide_eq_true (by omega)
  have k2 : decide ((b'.length + 1) * 8 ≤ 140737488355328) = true := decide_eq_true (by omega)
  have w1 : IntKind.wrap IntKind.i64 (((rowOfS s).length : Int) + 1) = ((rowOfS s).length : Int) + 1 := i64_in _ (by omega)
  have w2 : IntKind.wrap IntKind.i64 (((errsOfS s).length : Int) + 1) = ((errsOfS s).length : Int) + 1 := i64_in _ (by omega)
  have k3 : ∀ x : Tree, decide (((List.append a' [x]).length : Int) = ((rowOfS s).length : Int) + 1) = true := fun x => decide_eq_true (by
    show (((a' ++ [x]).length : Nat) : Int) = _
    rw [List.length_append, List.length_singleton]; omega)
  have k4 : ∀ x : Int, decide (((List.append b' [x]).length : Int) = ((errsOfS s).length : Int) + 1) = true := fun x => decide_eq_true (by
    show (((b' ++ [x]).length : Nat) : Int) = _
    rw [List.length_append, List.length_singleton]; omega)
  simp only [g_law22_HistoryPlays, decide_true, Bool.not_true, cond_false, right_play]
  rw [show lfp g_law22_HistoryPlays_r1 ((rowOfS s, errsOfS s, rowOfS s, errsOfS s, rowOfS s, errsOfS s, ((rowOfS s).length : Int), 0, ()), (), ()) = _ from h1]
  simp only [Option.bind_some]
  rw [show lfp g_law22_HistoryPlays_r2 ((a', errsOfS s, rowOfS s, errsOfS s, rowOfS s, errsOfS s, ((errsOfS s).length : Int), 0, ()), (), ()) = _ from h2]
  simp only [Option.bind_some, k1, k2, decide_true, cond_true, w1, w2, k3, k4]
end Go.Co.N
end

section
namespace Go.Proofs.YtghlolinkmlkeaaGreatDoor
open Go Go.Co Go.Co.N Go.Proofs
noncomputable def L_key_Good : List (Nat × LD) := []
noncomputable def Ls_key_Good : List (Nat × List (Nat × LD)) := []
noncomputable def B_key_Good : Bodies := []
theorem run_key_Good (x : denL [(.st .key)]) : run [] L_key_Good Ls_key_Good B_key_Good Tryz.f117 [(.st .key)] [.bool] x = g_key_Good x := by kernel_rfl
theorem ok_key_Good : ConOK Tryz.prog 117 c_key_Good := con_ok (ConsOK.nil) L_key_Good Ls_key_Good (B := B_key_Good) (BodiesOK.nil) Tryz.func117 rfl fun x y hf h => (run_key_Good x).trans (eq_key_Good x y hf h)
noncomputable def L_ref02_Good : List (Nat × LD) := []
noncomputable def Ls_ref02_Good : List (Nat × List (Nat × LD)) := []
noncomputable def B_ref02_Good : Bodies := []
theorem run_ref02_Good (x : denL [(.st .key)]) : run [] L_ref02_Good Ls_ref02_Good B_ref02_Good Tryz.f133 [(.st .key)] [.bool] x = g_ref02_Good x := by kernel_rfl
theorem ok_ref02_Good : ConOK Tryz.prog 133 c_ref02_Good := con_ok (ConsOK.nil) L_ref02_Good Ls_ref02_Good (B := B_ref02_Good) (BodiesOK.nil) Tryz.func133 rfl fun x y hf h => (run_ref02_Good x).trans (eq_ref02_Good x y hf h)
noncomputable def L_ref02_Ahead : List (Nat × LD) := [(6, ⟨⟨[(1, .hole .i), (2, .ptr 0 []), (4, .ptr 1 []), (6, .hole .i)], [(0, (.st .key), .hole (.st .key)), (1, (.st .key), .hole (.st .key))], []⟩, [(.exit 0, ⟨[(2, .ptr 0 []), (4, .ptr 1 [])], [(0, (.st .key), .hole (.st .key)), (1, (.st .key), .hole (.st .key))], []⟩)], 10, []⟩)]
noncomputable def Ls_ref02_Ahead : List (Nat × List (Nat × LD)) := []
noncomputable def B_ref02_Ahead : Bodies := []
theorem run_ref02_Ahead (x : denL [(.st .key), .i]) : run [(133, c_ref02_Good)] L_ref02_Ahead Ls_ref02_Ahead B_ref02_Ahead Tryz.f106 [(.st .key), .i] [(.st .key), .i] x = g_ref02_Ahead x := by kernel_rfl
theorem ok_ref02_Ahead : ConOK Tryz.prog 106 c_ref02_Ahead := con_ok (ConsOK.cons ok_ref02_Good (ConsOK.nil)) L_ref02_Ahead Ls_ref02_Ahead (B := B_ref02_Ahead) (BodiesOK.nil) Tryz.func106 rfl fun x y hf h => (run_ref02_Ahead x).trans (eq_ref02_Ahead x y hf h)
noncomputable def L_key_Ahead : List (Nat × LD) := []
noncomputable def Ls_key_Ahead : List (Nat × List (Nat × LD)) := []
noncomputable def B_key_Ahead : Bodies := []
theorem run_key_Ahead (x : denL [(.st .key), .i]) : run [(117, c_key_Good)] L_key_Ahead Ls_key_Ahead B_key_Ahead Tryz.f114 [(.st .key), .i] [(.st .key), .i] x = g_key_Ahead x := by kernel_rfl
theorem ok_key_Ahead : ConOK Tryz.prog 114 c_key_Ahead := con_ok (ConsOK.cons ok_key_Good (ConsOK.nil)) L_key_Ahead Ls_key_Ahead (B := B_key_Ahead) (BodiesOK.nil) Tryz.func114 rfl fun x y hf h => (run_key_Ahead x).trans (eq_key_Ahead x y hf h)
noncomputable def L_key_Seal : List (Nat × LD) := []
noncomputable def Ls_key_Seal : List (Nat × List (Nat × LD)) := []
noncomputable def B_key_Seal : Bodies := []
theorem run_key_Seal (x : denL [(.st .key), (.st .key)]) : run [(117, c_key_Good)] L_key_Seal Ls_key_Seal B_key_Seal Tryz.f80 [(.st .key), (.st .key)] [(.st .box), .i] x = g_key_Seal x := by kernel_rfl
theorem ok_key_Seal : ConOK Tryz.prog 80 c_key_Seal := con_ok (ConsOK.cons ok_key_Good (ConsOK.nil)) L_key_Seal Ls_key_Seal (B := B_key_Seal) (BodiesOK.nil) Tryz.func80 rfl fun x y hf h => (run_key_Seal x).trans (eq_key_Seal x y hf h)
noncomputable def L_ratchet_Check : List (Nat × LD) := [(3, ⟨⟨[(3, .mp 1), (7, .hole (.arr 21 (.st .key))), (8, .hole .i)], [], [(1, .i, .i)]⟩, [(.ret, ⟨[(2, .hole .i)], [], []⟩), (.exit 0, ⟨[], [], []⟩)], 11, []⟩)]
noncomputable def Ls_ratchet_Check : List (Nat × List (Nat × LD)) := []
noncomputable def B_ratchet_Check : Bodies := []
theorem run_ratchet_Check (x : denL [(.arr 21 (.st .key))]) : run [(117, c_key_Good)] L_ratchet_Check Ls_ratchet_Check B_ratchet_Check Tryz.f108 [(.arr 21 (.st .key))] [.i] x = g_ratchet_Check x := by kernel_rfl
theorem ok_ratchet_Check : ConOK Tryz.prog 108 c_ratchet_Check := con_ok (ConsOK.cons ok_key_Good (ConsOK.nil)) L_ratchet_Check Ls_ratchet_Check (B := B_ratchet_Check) (BodiesOK.nil) Tryz.func108 rfl fun x y hf h => (run_ratchet_Check x).trans (eq_ratchet_Check x y hf h)
noncomputable def L_ref10_Check : List (Nat × LD) := [(7, ⟨⟨[(1, .ptr 0 []), (3, .hole .i), (4, .hole .i)], [(0, (.arr 21 (.st .key)), .hole (.arr 21 (.st .key)))], []⟩, [(.ret, ⟨[(2, .hole .i)], [], []⟩), (.exit 2, ⟨[(1, .ptr 0 []), (3, .hole .i)], [(0, (.arr 21 (.st .key)), .hole (.arr 21 (.st .key)))], []⟩)], 10, []⟩), (2, ⟨⟨[(1, .ptr 0 []), (3, .hole .i)], [(0, (.arr 21 (.st .key)), .hole (.arr 21 (.st .key)))], []⟩, [(.ret, ⟨[(2, .hole .i)], [], []⟩), (.exit 0, ⟨[], [], []⟩)], 20, []⟩)]
noncomputable def Ls_ref10_Check : List (Nat × List (Nat × LD)) := []
noncomputable def B_ref10_Check : Bodies := []
theorem run_ref10_Check (x : denL [(.arr 21 (.st .key))]) : run [(133, c_ref02_Good)] L_ref10_Check Ls_ref10_Check B_ref10_Check Tryz.f100 [(.arr 21 (.st .key))] [.i] x = g_ref10_Check x := by kernel_rfl
theorem ok_ref10_Check : ConOK Tryz.prog 100 c_ref10_Check := con_ok (ConsOK.cons ok_ref02_Good (ConsOK.nil)) L_ref10_Check Ls_ref10_Check (B := B_ref10_Check) (BodiesOK.nil) Tryz.func100 rfl fun x y hf h => (run_ref10_Check x).trans (eq_ref10_Check x y hf h)
noncomputable def L_ratchet_free : List (Nat × LD) := [(6, ⟨⟨[(1, .hole .i), (2, .hole .i), (19, .hole (.arr 21 (.st .key))), (20, .hole .i)], [], []⟩, [(.ret, ⟨[(6, .hole .bool)], [], []⟩), (.exit 0, ⟨[], [], []⟩)], 11, []⟩)]
noncomputable def Ls_ratchet_free : List (Nat × List (Nat × LD)) := []
noncomputable def B_ratchet_free : Bodies := []
theorem run_ratchet_free (x : denL [(.arr 21 (.st .key)), .i, .i]) : run [] L_ratchet_free Ls_ratchet_free B_ratchet_free Tryz.f113 [(.arr 21 (.st .key)), .i, .i] [.bool] x = g_ratchet_free x := by kernel_rfl
theorem ok_ratchet_free : ConOK Tryz.prog 113 c_ratchet_free := con_ok (ConsOK.nil) L_ratchet_free Ls_ratchet_free (B := B_ratchet_free) (BodiesOK.nil) Tryz.func113 rfl fun x y hf h => (run_ratchet_free x).trans (eq_ratchet_free x y hf h)
noncomputable def L_ratchet_LeafAt : List (Nat × LD) := []
noncomputable def Ls_ratchet_LeafAt : List (Nat × List (Nat × LD)) := []
noncomputable def B_ratchet_LeafAt : Bodies := []
theorem run_ratchet_LeafAt (x : denL [(.st .entry), .i]) : run [(114, c_key_Ahead)] L_ratchet_LeafAt Ls_ratchet_LeafAt B_ratchet_LeafAt Tryz.f119 [(.st .entry), .i] [(.st .key), .i] x = g_ratchet_LeafAt x := by kernel_rfl
theorem ok_ratchet_LeafAt : ConOK Tryz.prog 119 c_ratchet_LeafAt := con_ok (ConsOK.cons ok_key_Ahead (ConsOK.nil)) L_ratchet_LeafAt Ls_ratchet_LeafAt (B := B_ratchet_LeafAt) (BodiesOK.nil) Tryz.func119 rfl fun x y hf h => (run_ratchet_LeafAt x).trans (eq_ratchet_LeafAt x y hf h)
noncomputable def L_bits_OnesCount32 : List (Nat × LD) := []
noncomputable def Ls_bits_OnesCount32 : List (Nat × List (Nat × LD)) := []
noncomputable def B_bits_OnesCount32 : Bodies := []
theorem run_bits_OnesCount32 (x : denL [(.int .u32)]) : run [] L_bits_OnesCount32 Ls_bits_OnesCount32 B_bits_OnesCount32 Tryz.f76 [(.int .u32)] [.i] x = g_bits_OnesCount32 x := by kernel_rfl
theorem ok_bits_OnesCount32 : ConOK Tryz.prog 76 c_bits_OnesCount32 := con_ok (ConsOK.nil) L_bits_OnesCount32 Ls_bits_OnesCount32 (B := B_bits_OnesCount32) (BodiesOK.nil) Tryz.func76 rfl fun x y hf h => (run_bits_OnesCount32 x).trans (eq_bits_OnesCount32 x y hf h)
noncomputable def L_ratchet_Turn : List (Nat × LD) := [(8, ⟨⟨[(1, .hole (.int .u32)), (2, .hole .i), (3, .ptr 0 []), (6, .ptr 1 []), (31, .hole .i)], [(0, (.arr 21 (.st .key)), .hole (.arr 21 (.st .key))), (1, (.arr 21 (.st .key)), .hole (.arr 21 (.st .key)))], []⟩, [(.ret, ⟨[(6, .ptr 1 []), (7, .hole .i), (8, .hole .i)], [(1, (.arr 21 (.st .key)), .hole (.arr 21 (.st .key)))], []⟩), (.exit 1, ⟨[(2, .hole .i), (3, .ptr 0 []), (6, .ptr 1 [])], [(0, (.arr 21 (.st .key)), .hole (.arr 21 (.st .key))), (1, (.arr 21 (.st .key)), .hole (.arr 21 (.st .key)))], []⟩)], 11, []⟩)]
noncomputable def Ls_ratchet_Turn : List (Nat × List (Nat × LD)) := []
noncomputable def B_ratchet_Turn : Bodies := []
theorem run_ratchet_Turn (x : denL [(.arr 21 (.st .key)), (.int .u32), .i]) : run [(108, c_ratchet_Check), (76, c_bits_OnesCount32), (113, c_ratchet_free), (114, c_key_Ahead)] L_ratchet_Turn Ls_ratchet_Turn B_ratchet_Turn Tryz.f77 [(.arr 21 (.st .key)), (.int .u32), .i] [(.arr 21 (.st .key)), .i, .i] x = g_ratchet_Turn x := by kernel_rfl
theorem ok_ratchet_Turn : ConOK Tryz.prog 77 c_ratchet_Turn := con_ok (ConsOK.cons ok_ratchet_Check (ConsOK.cons ok_bits_OnesCount32 (ConsOK.cons ok_ratchet_free (ConsOK.cons ok_key_Ahead (ConsOK.nil))))) L_ratchet_Turn Ls_ratchet_Turn (B := B_ratchet_Turn) (BodiesOK.nil) Tryz.func77 rfl fun x y hf h => (run_ratchet_Turn x).trans (eq_ratchet_Turn x y hf h)
noncomputable def L_ref01_In : List (Nat × LD) := [(4, ⟨⟨[(0, .hole (.int .u32)), (1, .hole .i), (5, .hole .i)], [], []⟩, [(.exit 0, ⟨[(0, .hole (.int .u32))], [], []⟩)], 10, []⟩)]
noncomputable def Ls_ref01_In : List (Nat × List (Nat × LD)) := []
noncomputable def B_ref01_In : Bodies := []
theorem run_ref01_In (x : denL [(.int .u32), .i]) : run [] L_ref01_In Ls_ref01_In B_ref01_In Tryz.f24 [(.int .u32), .i] [.bool] x = g_ref01_In x := by kernel_rfl
theorem ok_ref01_In : ConOK Tryz.prog 24 c_ref01_In := con_ok (ConsOK.nil) L_ref01_In Ls_ref01_In (B := B_ref01_In) (BodiesOK.nil) Tryz.func24 rfl fun x y hf h => (run_ref01_In x).trans (eq_ref01_In x y hf h)
noncomputable def L_ref10_count : List (Nat × LD) := [(3, ⟨⟨[(0, .hole (.int .u32)), (3, .hole .i), (4, .hole .i)], [], []⟩, [(.exit 0, ⟨[(3, .hole .i)], [], []⟩)], 10, []⟩)]
noncomputable def Ls_ref10_count : List (Nat × List (Nat × LD)) := []
noncomputable def B_ref10_count : Bodies := []
theorem run_ref10_count (x : denL [(.int .u32)]) : run [(24, c_ref01_In)] L_ref10_count Ls_ref10_count B_ref10_count Tryz.f105 [(.int .u32)] [.i] x = g_ref10_count x := by kernel_rfl
theorem ok_ref10_count : ConOK Tryz.prog 105 c_ref10_count := con_ok (ConsOK.cons ok_ref01_In (ConsOK.nil)) L_ref10_count Ls_ref10_count (B := B_ref10_count) (BodiesOK.nil) Tryz.func105 rfl fun x y hf h => (run_ref10_count x).trans (eq_ref10_count x y hf h)
noncomputable def L_ref10_Turn : List (Nat × LD) := [(4, ⟨⟨[(1, .hole (.int .u32)), (2, .hole .i), (3, .ptr 0 []), (6, .ptr 1 []), (9, .hole .i)], [(0, (.arr 21 (.st .key)), .hole (.arr 21 (.st .key))), (1, (.arr 21 (.st .key)), .hole (.arr 21 (.st .key)))], []⟩, [(.ret, ⟨[(6, .ptr 1 []), (7, .hole .i), (8, .hole .i)], [(1, (.arr 21 (.st .key)), .hole (.arr 21 (.st .key)))], []⟩), (.exit 0, ⟨[(1, .hole (.int .u32)), (2, .hole .i), (3, .ptr 0 []), (6, .ptr 1 [])], [(0, (.arr 21 (.st .key)), .hole (.arr 21 (.st .key))), (1, (.arr 21 (.st .key)), .hole (.arr 21 (.st .key)))], []⟩)], 10, []⟩), (12, ⟨⟨[(1, .hole (.int .u32)), (2, .hole .i), (3, .ptr 0 []), (6, .ptr 1 []), (10, .hole .i), (11, .hole .i)], [(0, (.arr 21 (.st .key)), .hole (.arr 21 (.st .key))), (1, (.arr 21 (.st .key)), .hole (.arr 21 (.st .key)))], []⟩, [(.ret, ⟨[(6, .ptr 1 []), (7, .hole .i), (8, .hole .i)], [(1, (.arr 21 (.st .key)), .hole (.arr 21 (.st .key)))], []⟩), (.exit 2, ⟨[(1, .hole (.int .u32)), (2, .hole .i), (3, .ptr 0 []), (6, .ptr 1 [])], [(0, (.arr 21 (.st .key)), .hole (.arr 21 (.st .key))), (1, (.arr 21 (.st .key)), .hole (.arr 21 (.st .key)))], []⟩)], 10, []⟩), (17, ⟨⟨[(1, .hole (.int .u32)), (2, .hole .i), (3, .ptr 0 []), (6, .ptr 1 []), (12, .hole .i)], [(0, (.arr 21 (.st .key)), .hole (.arr 21 (.st .key))), (1, (.arr 21 (.st .key)), .hole (.arr 21 (.st .key)))], []⟩, [(.ret, ⟨[(6, .ptr 1 []), (7, .hole .i), (8, .hole .i)], [(1, (.arr 21 (.st .key)), .hole (.arr 21 (.st .key)))], []⟩), (.exit 4, ⟨[(2, .hole .i), (3, .ptr 0 []), (6, .ptr 1 [])], [(0, (.arr 21 (.st .key)), .hole (.arr 21 (.st .key))), (1, (.arr 21 (.st .key)), .hole (.arr 21 (.st .key)))], []⟩)], 11, []⟩)]
noncomputable def Ls_ref10_Turn : List (Nat × List (Nat × LD)) := []
noncomputable def B_ref10_Turn : Bodies := []
theorem run_ref10_Turn (x : denL [(.arr 21 (.st .key)), (.int .u32), .i]) : run [(100, c_ref10_Check), (24, c_ref01_In), (105, c_ref10_count), (106, c_ref02_Ahead)] L_ref10_Turn Ls_ref10_Turn B_ref10_Turn Tryz.f66 [(.arr 21 (.st .key)), (.int .u32), .i] [(.arr 21 (.st .key)), .i, .i] x = g_ref10_Turn x := by kernel_rfl
theorem ok_ref10_Turn : ConOK Tryz.prog 66 c_ref10_Turn := con_ok (ConsOK.cons ok_ref10_Check (ConsOK.cons ok_ref01_In (ConsOK.cons ok_ref10_count (ConsOK.cons ok_ref02_Ahead (ConsOK.nil))))) L_ref10_Turn Ls_ref10_Turn (B := B_ref10_Turn) (BodiesOK.nil) Tryz.func66 rfl fun x y hf h => (run_ref10_Turn x).trans (eq_ref10_Turn x y hf h)
noncomputable def L_ref01_Node : List (Nat × LD) := []
noncomputable def Ls_ref01_Node : List (Nat × List (Nat × LD)) := []
noncomputable def B_ref01_Node : Bodies := []
theorem run_ref01_Node (x : denL [.i]) : run [] L_ref01_Node Ls_ref01_Node B_ref01_Node Tryz.f98 [.i] [.bool] x = g_ref01_Node x := by kernel_rfl
theorem ok_ref01_Node : ConOK Tryz.prog 98 c_ref01_Node := con_ok (ConsOK.nil) L_ref01_Node Ls_ref01_Node (B := B_ref01_Node) (BodiesOK.nil) Tryz.func98 rfl fun x y hf h => (run_ref01_Node x).trans (eq_ref01_Node x y hf h)
noncomputable def L_ref01_Child : List (Nat × LD) := []
noncomputable def Ls_ref01_Child : List (Nat × List (Nat × LD)) := []
noncomputable def B_ref01_Child : Bodies := []
theorem run_ref01_Child (x : denL [.i, .i]) : run [] L_ref01_Child Ls_ref01_Child B_ref01_Child Tryz.f68 [.i, .i] [.i] x = g_ref01_Child x := by kernel_rfl
theorem ok_ref01_Child : ConOK Tryz.prog 68 c_ref01_Child := con_ok (ConsOK.nil) L_ref01_Child Ls_ref01_Child (B := B_ref01_Child) (BodiesOK.nil) Tryz.func68 rfl fun x y hf h => (run_ref01_Child x).trans (eq_ref01_Child x y hf h)
noncomputable def L_ref01_Parent : List (Nat × LD) := [(7, ⟨⟨[(0, .hole .i), (3, .hole .i), (4, .hole .i)], [], []⟩, [(.ret, ⟨[(2, .hole .i)], [], []⟩), (.exit 2, ⟨[(0, .hole .i), (3, .hole .i)], [], []⟩)], 10, []⟩), (4, ⟨⟨[(0, .hole .i), (3, .hole .i)], [], []⟩, [(.ret, ⟨[(2, .hole .i)], [], []⟩), (.exit 0, ⟨[], [], []⟩)], 20, []⟩)]
noncomputable def Ls_ref01_Parent : List (Nat × List (Nat × LD)) := []
noncomputable def B_ref01_Parent : Bodies := []
theorem run_ref01_Parent (x : denL [.i]) : run [(68, c_ref01_Child)] L_ref01_Parent Ls_ref01_Parent B_ref01_Parent Tryz.f99 [.i] [.i] x = g_ref01_Parent x := by kernel_rfl
theorem ok_ref01_Parent : ConOK Tryz.prog 99 c_ref01_Parent := con_ok (ConsOK.cons ok_ref01_Child (ConsOK.nil)) L_ref01_Parent Ls_ref01_Parent (B := B_ref01_Parent) (BodiesOK.nil) Tryz.func99 rfl fun x y hf h => (run_ref01_Parent x).trans (eq_ref01_Parent x y hf h)
noncomputable def L_ref01_Leaf : List (Nat × LD) := []
noncomputable def Ls_ref01_Leaf : List (Nat × List (Nat × LD)) := []
noncomputable def B_ref01_Leaf : Bodies := []
theorem run_ref01_Leaf (x : denL [.i]) : run [] L_ref01_Leaf Ls_ref01_Leaf B_ref01_Leaf Tryz.f45 [.i] [.i] x = g_ref01_Leaf x := by kernel_rfl
theorem ok_ref01_Leaf : ConOK Tryz.prog 45 c_ref01_Leaf := con_ok (ConsOK.nil) L_ref01_Leaf Ls_ref01_Leaf (B := B_ref01_Leaf) (BodiesOK.nil) Tryz.func45 rfl fun x y hf h => (run_ref01_Leaf x).trans (eq_ref01_Leaf x y hf h)
noncomputable def L_ref01_Below : List (Nat × LD) := [(3, ⟨⟨[(0, .hole .i), (1, .hole .i)], [], []⟩, [(.exit 0, ⟨[(0, .hole .i), (1, .hole .i)], [], []⟩)], 10, []⟩)]
noncomputable def Ls_ref01_Below : List (Nat × List (Nat × LD)) := []
noncomputable def B_ref01_Below : Bodies := []
theorem run_ref01_Below (x : denL [.i, .i]) : run [(98, c_ref01_Node), (99, c_ref01_Parent)] L_ref01_Below Ls_ref01_Below B_ref01_Below Tryz.f63 [.i, .i] [.bool] x = g_ref01_Below x := by kernel_rfl
theorem ok_ref01_Below : ConOK Tryz.prog 63 c_ref01_Below := con_ok (ConsOK.cons ok_ref01_Node (ConsOK.cons ok_ref01_Parent (ConsOK.nil))) L_ref01_Below Ls_ref01_Below (B := B_ref01_Below) (BodiesOK.nil) Tryz.func63 rfl fun x y hf h => (run_ref01_Below x).trans (eq_ref01_Below x y hf h)
noncomputable def L_shape_first : List (Nat × LD) := []
noncomputable def Ls_shape_first : List (Nat × List (Nat × LD)) := []
noncomputable def B_shape_first : Bodies := []
theorem run_shape_first (x : denL [.i]) : run [] L_shape_first Ls_shape_first B_shape_first Tryz.f96 [.i] [.i] x = g_shape_first x := by kernel_rfl
theorem ok_shape_first : ConOK Tryz.prog 96 c_shape_first := con_ok (ConsOK.nil) L_shape_first Ls_shape_first (B := B_shape_first) (BodiesOK.nil) Tryz.func96 rfl fun x y hf h => (run_shape_first x).trans (eq_shape_first x y hf h)
noncomputable def L_shape_Level : List (Nat × LD) := [(5, ⟨⟨[(0, .hole .i), (3, .hole .i)], [], []⟩, [(.ret, ⟨[(2, .hole .i)], [], []⟩)], 10, []⟩)]
noncomputable def Ls_shape_Level : List (Nat × List (Nat × LD)) := []
noncomputable def B_shape_Level : Bodies := []
theorem run_shape_Level (x : denL [.i]) : run [(96, c_shape_first)] L_shape_Level Ls_shape_Level B_shape_Level Tryz.f61 [.i] [.i] x = g_shape_Level x := by kernel_rfl
theorem ok_shape_Level : ConOK Tryz.prog 61 c_shape_Level := con_ok (ConsOK.cons ok_shape_first (ConsOK.nil)) L_shape_Level Ls_shape_Level (B := B_shape_Level) (BodiesOK.nil) Tryz.func61 rfl fun x y hf h => (run_shape_Level x).trans (eq_shape_Level x y hf h)
noncomputable def L_shape_span : List (Nat × LD) := []
noncomputable def Ls_shape_span : List (Nat × List (Nat × LD)) := []
noncomputable def B_shape_span : Bodies := []
theorem run_shape_span (x : denL [.i]) : run [(61, c_shape_Level), (96, c_shape_first)] L_shape_span Ls_shape_span B_shape_span Tryz.f97 [.i] [.i, .i] x = g_shape_span x := by kernel_rfl
theorem ok_shape_span : ConOK Tryz.prog 97 c_shape_span := con_ok (ConsOK.cons ok_shape_Level (ConsOK.cons ok_shape_first (ConsOK.nil))) L_shape_span Ls_shape_span (B := B_shape_span) (BodiesOK.nil) Tryz.func97 rfl fun x y hf h => (run_shape_span x).trans (eq_shape_span x y hf h)
noncomputable def L_shape_Mask : List (Nat × LD) := []
noncomputable def Ls_shape_Mask : List (Nat × List (Nat × LD)) := []
noncomputable def B_shape_Mask : Bodies := []
theorem run_shape_Mask (x : denL [.i]) : run [(61, c_shape_Level), (97, c_shape_span)] L_shape_Mask Ls_shape_Mask B_shape_Mask Tryz.f62 [.i] [(.int .u64)] x = g_shape_Mask x := by kernel_rfl
theorem ok_shape_Mask : ConOK Tryz.prog 62 c_shape_Mask := con_ok (ConsOK.cons ok_shape_Level (ConsOK.cons ok_shape_span (ConsOK.nil))) L_shape_Mask Ls_shape_Mask (B := B_shape_Mask) (BodiesOK.nil) Tryz.func62 rfl fun x y hf h => (run_shape_Mask x).trans (eq_shape_Mask x y hf h)
noncomputable def L_shape_Slot : List (Nat × LD) := []
noncomputable def Ls_shape_Slot : List (Nat × List (Nat × LD)) := []
noncomputable def B_shape_Slot : Bodies := []
theorem run_shape_Slot (x : denL [.i]) : run [] L_shape_Slot Ls_shape_Slot B_shape_Slot Tryz.f118 [.i] [.i] x = g_shape_Slot x := by kernel_rfl
theorem ok_shape_Slot : ConOK Tryz.prog 118 c_shape_Slot := con_ok (ConsOK.nil) L_shape_Slot Ls_shape_Slot (B := B_shape_Slot) (BodiesOK.nil) Tryz.func118 rfl fun x y hf h => (run_shape_Slot x).trans (eq_shape_Slot x y hf h)
noncomputable def L_shape_Child : List (Nat × LD) := []
noncomputable def Ls_shape_Child : List (Nat × List (Nat × LD)) := []
noncomputable def B_shape_Child : Bodies := []
theorem run_shape_Child (x : denL [.i, .i]) : run [] L_shape_Child Ls_shape_Child B_shape_Child Tryz.f83 [.i, .i] [.i] x = g_shape_Child x := by kernel_rfl
theorem ok_shape_Child : ConOK Tryz.prog 83 c_shape_Child := con_ok (ConsOK.nil) L_shape_Child Ls_shape_Child (B := B_shape_Child) (BodiesOK.nil) Tryz.func83 rfl fun x y hf h => (run_shape_Child x).trans (eq_shape_Child x y hf h)
noncomputable def L_shape_Leaf : List (Nat × LD) := []
noncomputable def Ls_shape_Leaf : List (Nat × List (Nat × LD)) := []
noncomputable def B_shape_Leaf : Bodies := []
theorem run_shape_Leaf (x : denL [.i]) : run [] L_shape_Leaf Ls_shape_Leaf B_shape_Leaf Tryz.f41 [.i] [.i] x = g_shape_Leaf x := by kernel_rfl
theorem ok_shape_Leaf : ConOK Tryz.prog 41 c_shape_Leaf := con_ok (ConsOK.nil) L_shape_Leaf Ls_shape_Leaf (B := B_shape_Leaf) (BodiesOK.nil) Tryz.func41 rfl fun x y hf h => (run_shape_Leaf x).trans (eq_shape_Leaf x y hf h)
noncomputable def L_shape_Path : List (Nat × LD) := [(5, ⟨⟨[(0, .hole .i), (2, .ptr 0 []), (4, .ptr 1 []), (11, .hole .i)], [(0, (.arr 3 .i), .hole (.arr 3 .i)), (1, (.arr 3 .i), .hole (.arr 3 .i))], []⟩, [(.exit 0, ⟨[(2, .ptr 0 []), (4, .ptr 1 [])], [(0, (.arr 3 .i), .hole (.arr 3 .i)), (1, (.arr 3 .i), .hole (.arr 3 .i))], []⟩)], 10, []⟩)]
noncomputable def Ls_shape_Path : List (Nat × List (Nat × LD)) := []
noncomputable def B_shape_Path : Bodies := []
theorem run_shape_Path (x : denL [.i]) : run [(41, c_shape_Leaf), (96, c_shape_first)] L_shape_Path Ls_shape_Path B_shape_Path Tryz.f84 [.i] [(.arr 3 .i), .bool] x = g_shape_Path x := by kernel_rfl
theorem ok_shape_Path : ConOK Tryz.prog 84 c_shape_Path := con_ok (ConsOK.cons ok_shape_Leaf (ConsOK.cons ok_shape_first (ConsOK.nil))) L_shape_Path Ls_shape_Path (B := B_shape_Path) (BodiesOK.nil) Tryz.func84 rfl fun x y hf h => (run_shape_Path x).trans (eq_shape_Path x y hf h)
noncomputable def L_shape_Above : List (Nat × LD) := [(3, ⟨⟨[(0, .hole (.int .u64)), (3, .hole (.int .u32)), (5, .hole .i)], [], []⟩, [(.exit 0, ⟨[(3, .hole (.int .u32))], [], []⟩)], 10, []⟩)]
noncomputable def Ls_shape_Above : List (Nat × List (Nat × LD)) := []
noncomputable def B_shape_Above : Bodies := []
theorem run_shape_Above (x : denL [(.int .u64)]) : run [(62, c_shape_Mask)] L_shape_Above Ls_shape_Above B_shape_Above Tryz.f112 [(.int .u64)] [(.int .u32)] x = g_shape_Above x := by kernel_rfl
theorem ok_shape_Above : ConOK Tryz.prog 112 c_shape_Above := con_ok (ConsOK.cons ok_shape_Mask (ConsOK.nil)) L_shape_Above Ls_shape_Above (B := B_shape_Above) (BodiesOK.nil) Tryz.func112 rfl fun x y hf h => (run_shape_Above x).trans (eq_shape_Above x y hf h)
noncomputable def L_roster_right : List (Nat × LD) := []
noncomputable def Ls_roster_right : List (Nat × List (Nat × LD)) := []
noncomputable def B_roster_right : Bodies := []
theorem run_roster_right (x : denL [(.st .entry)]) : run [] L_roster_right Ls_roster_right B_roster_right Tryz.f138 [(.st .entry)] [.bool] x = g_roster_right x := by kernel_rfl
theorem ok_roster_right : ConOK Tryz.prog 138 c_roster_right := con_ok (ConsOK.nil) L_roster_right Ls_roster_right (B := B_roster_right) (BodiesOK.nil) Tryz.func138 rfl fun x y hf h => (run_roster_right x).trans (eq_roster_right x y hf h)
noncomputable def L_roster_Check : List (Nat × LD) := [(3, ⟨⟨[(3, .mp 1), (4, .mp 2), (9, .hole (.arr 64 (.st .entry))), (10, .hole .i)], [], [(1, .i, .i), (2, .i, .i)]⟩, [(.ret, ⟨[(2, .hole .i)], [], []⟩), (.exit 0, ⟨[], [], []⟩)], 11, []⟩)]
noncomputable def Ls_roster_Check : List (Nat × List (Nat × LD)) := []
noncomputable def B_roster_Check : Bodies := []
theorem run_roster_Check (x : denL [(.arr 64 (.st .entry))]) : run [(138, c_roster_right)] L_roster_Check Ls_roster_Check B_roster_Check Tryz.f109 [(.arr 64 (.st .entry))] [.i] x = g_roster_Check x := by kernel_rfl
theorem ok_roster_Check : ConOK Tryz.prog 109 c_roster_Check := con_ok (ConsOK.cons ok_roster_right (ConsOK.nil)) L_roster_Check Ls_roster_Check (B := B_roster_Check) (BodiesOK.nil) Tryz.func109 rfl fun x y hf h => (run_roster_Check x).trans (eq_roster_Check x y hf h)
noncomputable def L_roster_Find : List (Nat × LD) := []
noncomputable def Ls_roster_Find : List (Nat × List (Nat × LD)) := [(57, [(2, ⟨⟨[(0, .asl 0 []), (1, .fn 58 [1]), (7, .hole .i), (8, .hole .i)], [(0, (.arr 64 (.st .entry)), .hole (.arr 64 (.st .entry))), (1, .i, .hole .i)], []⟩, [(.ret, ⟨[(4, .hole .i)], [(0, (.arr 64 (.st .entry)), .hole (.arr 64 (.st .entry))), (1, .i, .hole .i)], []⟩), (.exit 0, ⟨[], [(0, (.arr 64 (.st .entry)), .hole (.arr 64 (.st .entry))), (1, .i, .hole .i)], []⟩)], 10, []⟩)])]
noncomputable def B_roster_Find : Bodies := [bodyLine 58 Tryz.f58, bodyLine 57 Tryz.f57]
theorem run_roster_Find (x : denL [(.arr 64 (.st .entry)), .i]) : run [] L_roster_Find Ls_roster_Find B_roster_Find Tryz.f36 [(.arr 64 (.st .entry)), .i] [.i] x = g_roster_Find x := by kernel_rfl
theorem ok_roster_Find : ConOK Tryz.prog 36 c_roster_Find := con_ok (ConsOK.nil) L_roster_Find Ls_roster_Find (B := B_roster_Find) (BodiesOK.cons Tryz.func58 rfl (BodiesOK.cons Tryz.func57 rfl (BodiesOK.nil))) Tryz.func36 rfl fun x y hf h => (run_roster_Find x).trans (eq_roster_Find x y hf h)
noncomputable def L_roster_Taken : List (Nat × LD) := [(3, ⟨⟨[(3, .hole (.int .u64)), (6, .hole (.arr 64 (.st .entry))), (7, .hole .i)], [], []⟩, [(.exit 0, ⟨[(3, .hole (.int .u64))], [], []⟩)], 11, []⟩)]
noncomputable def Ls_roster_Taken : List (Nat × List (Nat × LD)) := []
noncomputable def B_roster_Taken : Bodies := []
theorem run_roster_Taken (x : denL [(.arr 64 (.st .entry))]) : run [] L_roster_Taken Ls_roster_Taken B_roster_Taken Tryz.f82 [(.arr 64 (.st .entry))] [(.int .u64)] x = g_roster_Taken x := by kernel_rfl
theorem ok_roster_Taken : ConOK Tryz.prog 82 c_roster_Taken := con_ok (ConsOK.nil) L_roster_Taken Ls_roster_Taken (B := B_roster_Taken) (BodiesOK.nil) Tryz.func82 rfl fun x y hf h => (run_roster_Taken x).trans (eq_roster_Taken x y hf h)
noncomputable def L_ref09_Right : List (Nat × LD) := []
noncomputable def Ls_ref09_Right : List (Nat × List (Nat × LD)) := []
noncomputable def B_ref09_Right : Bodies := []
theorem run_ref09_Right (x : denL [(.st .entry)]) : run [] L_ref09_Right Ls_ref09_Right B_ref09_Right Tryz.f134 [(.st .entry)] [.bool] x = g_ref09_Right x := by kernel_rfl
theorem ok_ref09_Right : ConOK Tryz.prog 134 c_ref09_Right := con_ok (ConsOK.nil) L_ref09_Right Ls_ref09_Right (B := B_ref09_Right) (BodiesOK.nil) Tryz.func134 rfl fun x y hf h => (run_ref09_Right x).trans (eq_ref09_Right x y hf h)
noncomputable def L_ref09_Check : List (Nat × LD) := [(8, ⟨⟨[(1, .ptr 0 []), (3, .hole .i), (4, .hole .i)], [(0, (.arr 64 (.st .entry)), .hole (.arr 64 (.st .entry)))], []⟩, [(.ret, ⟨[(2, .hole .i)], [], []⟩), (.exit 2, ⟨[(1, .ptr 0 []), (3, .hole .i)], [(0, (.arr 64 (.st .entry)), .hole (.arr 64 (.st .entry)))], []⟩)], 10, []⟩), (2, ⟨⟨[(1, .ptr 0 []), (3, .hole .i)], [(0, (.arr 64 (.st .entry)), .hole (.arr 64 (.st .entry)))], []⟩, [(.ret, ⟨[(2, .hole .i)], [], []⟩), (.exit 0, ⟨[], [], []⟩)], 20, []⟩)]
noncomputable def Ls_ref09_Check : List (Nat × List (Nat × LD)) := []
noncomputable def B_ref09_Check : Bodies := []
theorem run_ref09_Check (x : denL [(.arr 64 (.st .entry))]) : run [(134, c_ref09_Right)] L_ref09_Check Ls_ref09_Check B_ref09_Check Tryz.f101 [(.arr 64 (.st .entry))] [.i] x = g_ref09_Check x := by kernel_rfl
theorem ok_ref09_Check : ConOK Tryz.prog 101 c_ref09_Check := con_ok (ConsOK.cons ok_ref09_Right (ConsOK.nil)) L_ref09_Check Ls_ref09_Check (B := B_ref09_Check) (BodiesOK.nil) Tryz.func101 rfl fun x y hf h => (run_ref09_Check x).trans (eq_ref09_Check x y hf h)
noncomputable def L_ref09_Find : List (Nat × LD) := [(2, ⟨⟨[(1, .hole .i), (2, .ptr 0 []), (5, .hole .i)], [(0, (.arr 64 (.st .entry)), .hole (.arr 64 (.st .entry)))], []⟩, [(.ret, ⟨[(4, .hole .i)], [], []⟩), (.exit 0, ⟨[], [], []⟩)], 10, []⟩)]
noncomputable def Ls_ref09_Find : List (Nat × List (Nat × LD)) := []
noncomputable def B_ref09_Find : Bodies := []
theorem run_ref09_Find (x : denL [(.arr 64 (.st .entry)), .i]) : run [] L_ref09_Find Ls_ref09_Find B_ref09_Find Tryz.f59 [(.arr 64 (.st .entry)), .i] [.i] x = g_ref09_Find x := by kernel_rfl
theorem ok_ref09_Find : ConOK Tryz.prog 59 c_ref09_Find := con_ok (ConsOK.nil) L_ref09_Find Ls_ref09_Find (B := B_ref09_Find) (BodiesOK.nil) Tryz.func59 rfl fun x y hf h => (run_ref09_Find x).trans (eq_ref09_Find x y hf h)
noncomputable def L_ref11_Start : List (Nat × LD) := [(3, ⟨⟨[(0, .ptr 0 []), (1, .ptr 1 []), (2, .hole .i)], [(0, (.st .tree), .hole (.st .tree)), (1, (.st .tree), .hole (.st .tree))], []⟩, [(.exit 0, ⟨[(0, .ptr 0 []), (1, .ptr 1 [])], [(0, (.st .tree), .hole (.st .tree)), (1, (.st .tree), .hole (.st .tree))], []⟩)], 10, []⟩)]
noncomputable def Ls_ref11_Start : List (Nat × List (Nat × LD)) := []
noncomputable def B_ref11_Start : Bodies := []
theorem run_ref11_Start (x : denL []) : run [] L_ref11_Start Ls_ref11_Start B_ref11_Start Tryz.f49 [] [(.st .tree)] x = g_ref11_Start x := by kernel_rfl
theorem ok_ref11_Start : ConOK Tryz.prog 49 c_ref11_Start := con_ok (ConsOK.nil) L_ref11_Start Ls_ref11_Start (B := B_ref11_Start) (BodiesOK.nil) Tryz.func49 rfl fun x y hf h => (run_ref11_Start x).trans (eq_ref11_Start x y hf h)
noncomputable def L_ref11_Check : List (Nat × LD) := [(4, ⟨⟨[(1, .ptr 0 []), (3, .hole .i)], [(0, (.st .tree), .hole (.st .tree))], []⟩, [(.ret, ⟨[(2, .hole .i)], [], []⟩), (.exit 0, ⟨[(1, .ptr 0 [])], [(0, (.st .tree), .hole (.st .tree))], []⟩)], 10, []⟩), (14, ⟨⟨[(1, .ptr 0 []), (4, .hole .i), (5, .hole .i)], [(0, (.st .tree), .hole (.st .tree))], []⟩, [(.ret, ⟨[(2, .hole .i)], [], []⟩), (.exit 4, ⟨[(1, .ptr 0 []), (4, .hole .i)], [(0, (.st .tree), .hole (.st .tree))], []⟩)], 10, []⟩), (9, ⟨⟨[(1, .ptr 0 []), (4, .hole .i)], [(0, (.st .tree), .hole (.st .tree))], []⟩, [(.ret, ⟨[(2, .hole .i)], [], []⟩), (.exit 2, ⟨[], [], []⟩)], 20, []⟩)]
noncomputable def Ls_ref11_Check : List (Nat × List (Nat × LD)) := []
noncomputable def B_ref11_Check : Bodies := []
theorem run_ref11_Check (x : denL [(.st .tree)]) : run [(100, c_ref10_Check), (101, c_ref09_Check)] L_ref11_Check Ls_ref11_Check B_ref11_Check Tryz.f64 [(.st .tree)] [.i] x = g_ref11_Check x := by kernel_rfl
theorem ok_ref11_Check : ConOK Tryz.prog 64 c_ref11_Check := con_ok (ConsOK.cons ok_ref10_Check (ConsOK.cons ok_ref09_Check (ConsOK.nil))) L_ref11_Check Ls_ref11_Check (B := B_ref11_Check) (BodiesOK.nil) Tryz.func64 rfl fun x y hf h => (run_ref11_Check x).trans (eq_ref11_Check x y hf h)
noncomputable def L_keytree_Check : List (Nat × LD) := [(7, ⟨⟨[(1, .ptr 0 []), (3, .mp 1), (38, .hole (.arr 21 (.st .key))), (39, .hole .i)], [(0, (.st .tree), .hole (.st .tree))], [(1, .i, .i)]⟩, [(.ret, ⟨[(2, .hole .i)], [], []⟩), (.exit 0, ⟨[(1, .ptr 0 []), (3, .mp 1)], [(0, (.st .tree), .hole (.st .tree))], [(1, .i, .i)]⟩)], 11, []⟩), (14, ⟨⟨[(1, .ptr 0 []), (3, .mp 1), (61, .hole (.arr 64 (.st .entry))), (62, .hole .i)], [(0, (.st .tree), .hole (.st .tree))], [(1, .i, .i)]⟩, [(.ret, ⟨[(2, .hole .i)], [], []⟩), (.exit 2, ⟨[], [], []⟩)], 11, []⟩)]
noncomputable def Ls_keytree_Check : List (Nat × List (Nat × LD)) := []
noncomputable def B_keytree_Check : Bodies := []
theorem run_keytree_Check (x : denL [(.st .tree)]) : run [(108, c_ratchet_Check), (109, c_roster_Check)] L_keytree_Check Ls_keytree_Check B_keytree_Check Tryz.f72 [(.st .tree)] [.i] x = g_keytree_Check x := by kernel_rfl
theorem ok_keytree_Check : ConOK Tryz.prog 72 c_keytree_Check := con_ok (ConsOK.cons ok_ratchet_Check (ConsOK.cons ok_roster_Check (ConsOK.nil))) L_keytree_Check Ls_keytree_Check (B := B_keytree_Check) (BodiesOK.nil) Tryz.func72 rfl fun x y hf h => (run_keytree_Check x).trans (eq_keytree_Check x y hf h)
noncomputable def L_ref08_Places : List (Nat × LD) := [(3, ⟨⟨[(0, .hole (.int .u64)), (2, .ptr 0 []), (3, .ptr 1 []), (4, .hole .i)], [(0, (.arr 64 .bool), .hole (.arr 64 .bool)), (1, (.arr 64 .bool), .hole (.arr 64 .bool))], []⟩, [(.exit 0, ⟨[(2, .ptr 0 []), (3, .ptr 1 [])], [(0, (.arr 64 .bool), .hole (.arr 64 .bool)), (1, (.arr 64 .bool), .hole (.arr 64 .bool))], []⟩)], 10, []⟩)]
noncomputable def Ls_ref08_Places : List (Nat × List (Nat × LD)) := []
noncomputable def B_ref08_Places : Bodies := []
theorem run_ref08_Places (x : denL [(.int .u64)]) : run [] L_ref08_Places Ls_ref08_Places B_ref08_Places Tryz.f148 [(.int .u64)] [(.arr 64 .bool)] x = g_ref08_Places x := by kernel_rfl
theorem ok_ref08_Places : ConOK Tryz.prog 148 c_ref08_Places := con_ok (ConsOK.nil) L_ref08_Places Ls_ref08_Places (B := B_ref08_Places) (BodiesOK.nil) Tryz.func148 rfl fun x y hf h => (run_ref08_Places x).trans (eq_ref08_Places x y hf h)
noncomputable def L_ref08_Word : List (Nat × LD) := [(3, ⟨⟨[(1, .ptr 0 []), (3, .hole (.int .u64)), (4, .hole .i)], [(0, (.arr 64 .bool), .hole (.arr 64 .bool))], []⟩, [(.exit 0, ⟨[(3, .hole (.int .u64))], [], []⟩)], 10, []⟩)]
noncomputable def Ls_ref08_Word : List (Nat × List (Nat × LD)) := []
noncomputable def B_ref08_Word : Bodies := []
theorem run_ref08_Word (x : denL [(.arr 64 .bool)]) : run [] L_ref08_Word Ls_ref08_Word B_ref08_Word Tryz.f136 [(.arr 64 .bool)] [(.int .u64)] x = g_ref08_Word x := by kernel_rfl
theorem ok_ref08_Word : ConOK Tryz.prog 136 c_ref08_Word := con_ok (ConsOK.nil) L_ref08_Word Ls_ref08_Word (B := B_ref08_Word) (BodiesOK.nil) Tryz.func136 rfl fun x y hf h => (run_ref08_Word x).trans (eq_ref08_Word x y hf h)
noncomputable def L_ref08_List : List (Nat × LD) := [(4, ⟨⟨[(3, .ptr 0 []), (4, .row .i), (5, .hole .i)], [(0, (.arr 64 .bool), .hole (.arr 64 .bool))], []⟩, [(.exit 0, ⟨[(4, .row .i)], [], []⟩)], 13, []⟩)]
noncomputable def Ls_ref08_List : List (Nat × List (Nat × LD)) := []
noncomputable def B_ref08_List : Bodies := []
theorem run_ref08_List (x : denL [(.int .u64)]) : run [(148, c_ref08_Places)] L_ref08_List Ls_ref08_List B_ref08_List Tryz.f135 [(.int .u64)] [(.list .i)] x = g_ref08_List x := by kernel_rfl
theorem ok_ref08_List : ConOK Tryz.prog 135 c_ref08_List := con_ok (ConsOK.cons ok_ref08_Places (ConsOK.nil)) L_ref08_List Ls_ref08_List (B := B_ref08_List) (BodiesOK.nil) Tryz.func135 rfl fun x y hf h => (run_ref08_List x).trans (eq_ref08_List x y hf h)
noncomputable def L_ref08_Count : List (Nat × LD) := []
noncomputable def Ls_ref08_Count : List (Nat × List (Nat × LD)) := []
noncomputable def B_ref08_Count : Bodies := []
theorem run_ref08_Count (x : denL [(.int .u64)]) : run [(135, c_ref08_List)] L_ref08_Count Ls_ref08_Count B_ref08_Count Tryz.f103 [(.int .u64)] [.i] x = g_ref08_Count x := by kernel_rfl
theorem ok_ref08_Count : ConOK Tryz.prog 103 c_ref08_Count := con_ok (ConsOK.cons ok_ref08_List (ConsOK.nil)) L_ref08_Count Ls_ref08_Count (B := B_ref08_Count) (BodiesOK.nil) Tryz.func103 rfl fun x y hf h => (run_ref08_Count x).trans (eq_ref08_Count x y hf h)
noncomputable def L_ref09_Taken : List (Nat × LD) := [(3, ⟨⟨[(1, .ptr 0 []), (3, .ptr 1 []), (4, .hole .i)], [(0, (.arr 64 (.st .entry)), .hole (.arr 64 (.st .entry))), (1, (.arr 64 .bool), .hole (.arr 64 .bool))], []⟩, [(.exit 0, ⟨[(3, .ptr 1 [])], [(1, (.arr 64 .bool), .hole (.arr 64 .bool))], []⟩)], 10, []⟩)]
noncomputable def Ls_ref09_Taken : List (Nat × List (Nat × LD)) := []
noncomputable def B_ref09_Taken : Bodies := []
theorem run_ref09_Taken (x : denL [(.arr 64 (.st .entry))]) : run [(136, c_ref08_Word)] L_ref09_Taken Ls_ref09_Taken B_ref09_Taken Tryz.f104 [(.arr 64 (.st .entry))] [(.int .u64)] x = g_ref09_Taken x := by kernel_rfl
theorem ok_ref09_Taken : ConOK Tryz.prog 104 c_ref09_Taken := con_ok (ConsOK.cons ok_ref08_Word (ConsOK.nil)) L_ref09_Taken Ls_ref09_Taken (B := B_ref09_Taken) (BodiesOK.nil) Tryz.func104 rfl fun x y hf h => (run_ref09_Taken x).trans (eq_ref09_Taken x y hf h)
noncomputable def L_ref09_person : List (Nat × LD) := []
noncomputable def Ls_ref09_person : List (Nat × List (Nat × LD)) := []
noncomputable def B_ref09_person : Bodies := []
theorem run_ref09_person (x : denL [(.arr 64 (.st .entry)), (.arr 256 .bool), .i, .bool]) : run [(59, c_ref09_Find)] L_ref09_person Ls_ref09_person B_ref09_person Tryz.f102 [(.arr 64 (.st .entry)), (.arr 256 .bool), .i, .bool] [.i] x = g_ref09_person x := by kernel_rfl
theorem ok_ref09_person : ConOK Tryz.prog 102 c_ref09_person := con_ok (ConsOK.cons ok_ref09_Find (ConsOK.nil)) L_ref09_person Ls_ref09_person (B := B_ref09_person) (BodiesOK.nil) Tryz.func102 rfl fun x y hf h => (run_ref09_person x).trans (eq_ref09_person x y hf h)
noncomputable def L_ref09_Fits : List (Nat × LD) := [(5, ⟨⟨[(2, .ptr 0 []), (3, .ptr 1 []), (5, .ptr 2 []), (16, .hole (.list .i)), (17, .hole .i), (18, .hole .i)], [(0, (.arr 64 (.st .entry)), .hole (.arr 64 (.st .entry))), (1, (.st .batch), .hole (.st .batch)), (2, (.arr 256 .bool), .hole (.arr 256 .bool))], []⟩, [(.ret, ⟨[(4, .hole .i)], [], []⟩), (.exit 0, ⟨[(2, .ptr 0 []), (3, .ptr 1 []), (5, .ptr 2 [])], [(0, (.arr 64 (.st .entry)), .hole (.arr 64 (.st .entry))), (1, (.st .batch), .hole (.st .batch)), (2, (.arr 256 .bool), .hole (.arr 256 .bool))], []⟩)], 10, []⟩), (13, ⟨⟨[(2, .ptr 0 []), (3, .ptr 1 []), (5, .ptr 2 []), (33, .hole (.list .i)), (34, .hole .i), (35, .hole .i)], [(0, (.arr 64 (.st .entry)), .hole (.arr 64 (.st .entry))), (1, (.st .batch), .hole (.st .batch)), (2, (.arr 256 .bool), .hole (.arr 256 .bool))], []⟩, [(.ret, ⟨[(4, .hole .i)], [], []⟩), (.exit 2, ⟨[(2, .ptr 0 []), (3, .ptr 1 [])], [(0, (.arr 64 (.st .entry)), .hole (.arr 64 (.st .entry))), (1, (.st .batch), .hole (.st .batch))], []⟩)], 10, []⟩)]
noncomputable def Ls_ref09_Fits : List (Nat × List (Nat × LD)) := []
noncomputable def B_ref09_Fits : Bodies := []
theorem run_ref09_Fits (x : denL [(.arr 64 (.st .entry)), (.st .batch)]) : run [(101, c_ref09_Check), (102, c_ref09_person), (104, c_ref09_Taken), (103, c_ref08_Count)] L_ref09_Fits Ls_ref09_Fits B_ref09_Fits Tryz.f65 [(.arr 64 (.st .entry)), (.st .batch)] [.i] x = g_ref09_Fits x := by kernel_rfl
theorem ok_ref09_Fits : ConOK Tryz.prog 65 c_ref09_Fits := con_ok (ConsOK.cons ok_ref09_Check (ConsOK.cons ok_ref09_person (ConsOK.cons ok_ref09_Taken (ConsOK.cons ok_ref08_Count (ConsOK.nil))))) L_ref09_Fits Ls_ref09_Fits (B := B_ref09_Fits) (BodiesOK.nil) Tryz.func65 rfl fun x y hf h => (run_ref09_Fits x).trans (eq_ref09_Fits x y hf h)
noncomputable def L_ref09_Move : List (Nat × LD) := [(10, ⟨⟨[(2, .hole .i), (3, .hole .i), (4, .ptr 0 []), (5, .ptr 1 []), (8, .ptr 2 []), (13, .hole .i), (14, .hole .i)], [(0, (.arr 64 (.st .entry)), .hole (.arr 64 (.st .entry))), (1, (.st .batch), .hole (.st .batch)), (2, (.arr 64 (.st .entry)), .hole (.arr 64 (.st .entry)))], []⟩, [(.ret, ⟨[(8, .ptr 2 []), (9, .nils), (10, .nils), (11, .hole .i)], [(2, (.arr 64 (.st .entry)), .hole (.arr 64 (.st .entry)))], []⟩), (.exit 0, ⟨[(2, .hole .i), (3, .hole .i), (4, .ptr 0 []), (5, .ptr 1 []), (8, .ptr 2 [])], [(0, (.arr 64 (.st .entry)), .hole (.arr 64 (.st .entry))), (1, (.st .batch), .hole (.st .batch)), (2, (.arr 64 (.st .entry)), .hole (.arr 64 (.st .entry)))], []⟩)], 10, []⟩), (16, ⟨⟨[(2, .hole .i), (3, .hole .i), (4, .ptr 0 []), (5, .ptr 1 []), (8, .ptr 2 []), (15, .row (.st .seat)), (16, .nils), (79, .hole (.list .i)), (80, .hole .i), (81, .hole .i)], [(0, (.arr 64 (.st .entry)), .hole (.arr 64 (.st .entry))), (1, (.st .batch), .hole (.st .batch)), (2, (.arr 64 (.st .entry)), .hole (.arr 64 (.st .entry)))], []⟩, [(.exit 2, ⟨[(2, .hole .i), (3, .hole .i), (4, .ptr 0 []), (5, .ptr 1 []), (8, .ptr 2 []), (15, .row (.st .seat)), (16, .nils)], [(0, (.arr 64 (.st .entry)), .hole (.arr 64 (.st .entry))), (1, (.st .batch), .hole (.st .batch)), (2, (.arr 64 (.st .entry)), .hole (.arr 64 (.st .entry)))], []⟩)], 13, []⟩), (26, ⟨⟨[(2, .hole .i), (3, .hole .i), (4, .ptr 0 []), (8, .ptr 2 []), (15, .row (.st .seat)), (16, .row (.st .seat)), (20, .hole .i), (21, .hole .i), (22, .hole .i), (99, .hole (.list .i)), (100, .hole .i), (101, .hole .i)], [(0, (.arr 64 (.st .entry)), .hole (.arr 64 (.st .entry))), (2, (.arr 64 (.st .entry)), .hole (.arr 64 (.st .entry)))], []⟩, [(.exit 6, ⟨[(2, .hole .i), (3, .hole .i), (4, .ptr 0 []), (8, .ptr 2 []), (15, .row (.st .seat)), (16, .row (.st .seat)), (20, .hole .i), (21, .hole .i), (22, .hole .i), (99, .hole (.list .i)), (100, .hole .i), (101, .hole .i)], [(0, (.arr 64 (.st .entry)), .hole (.arr 64 (.st .entry))), (2, (.arr 64 (.st .entry)), .hole (.arr 64 (.st .entry)))], []⟩)], 12, []⟩), (23, ⟨⟨[(2, .hole .i), (3, .hole .i), (4, .ptr 0 []), (8, .ptr 2 []), (15, .row (.st .seat)), (16, .row (.st .seat)), (99, .hole (.list .i)), (100, .hole .i), (101, .hole .i)], [(0, (.arr 64 (.st .entry)), .hole (.arr 64 (.st .entry))), (2, (.arr 64 (.st .entry)), .hole (.arr 64 (.st .entry)))], []⟩, [(.exit 4, ⟨[(4, .ptr 0 []), (8, .ptr 2 []), (15, .row (.st .seat)), (16, .row (.st .seat))], [(0, (.arr 64 (.st .entry)), .hole (.arr 64 (.st .entry))), (2, (.arr 64 (.st .entry)), .hole (.arr 64 (.st .entry)))], []⟩)], 24, []⟩)]
noncomputable def Ls_ref09_Move : List (Nat × List (Nat × LD)) := []
noncomputable def B_ref09_Move : Bodies := []
theorem run_ref09_Move (x : denL [(.arr 64 (.st .entry)), (.st .batch), .i, .i]) : run [(65, c_ref09_Fits), (59, c_ref09_Find)] L_ref09_Move Ls_ref09_Move B_ref09_Move Tryz.f67 [(.arr 64 (.st .entry)), (.st .batch), .i, .i] [(.arr 64 (.st .entry)), (.list (.st .seat)), (.list (.st .seat)), .i] x = g_ref09_Move x := by kernel_rfl
theorem ok_ref09_Move : ConOK Tryz.prog 67 c_ref09_Move := con_ok (ConsOK.cons ok_ref09_Fits (ConsOK.cons ok_ref09_Find (ConsOK.nil))) L_ref09_Move Ls_ref09_Move (B := B_ref09_Move) (BodiesOK.nil) Tryz.func67 rfl fun x y hf h => (run_ref09_Move x).trans (eq_ref09_Move x y hf h)
noncomputable def L_ref11_Replaced : List (Nat × LD) := [(7, ⟨⟨[(0, .hole (.list (.st .seat))), (3, .hole (.int .u32)), (4, .hole (.int .u32)), (5, .hole .i), (12, .hole (.list (.st .seat))), (13, .hole .i), (14, .hole .i)], [], []⟩, [(.exit 2, ⟨[(0, .hole (.list (.st .seat))), (3, .hole (.int .u32)), (4, .hole (.int .u32)), (5, .hole .i)], [], []⟩)], 11, []⟩), (4, ⟨⟨[(0, .hole (.list (.st .seat))), (3, .hole (.int .u32)), (4, .hole (.int .u32)), (5, .hole .i)], [], []⟩, [(.exit 0, ⟨[(3, .hole (.int .u32))], [], []⟩)], 22, []⟩)]
noncomputable def Ls_ref11_Replaced : List (Nat × List (Nat × LD)) := []
noncomputable def B_ref11_Replaced : Bodies := []
theorem run_ref11_Replaced (x : denL [(.list (.st .seat))]) : run [(45, c_ref01_Leaf), (63, c_ref01_Below)] L_ref11_Replaced Ls_ref11_Replaced B_ref11_Replaced Tryz.f46 [(.list (.st .seat))] [(.int .u32)] x = g_ref11_Replaced x := by kernel_rfl
theorem ok_ref11_Replaced : ConOK Tryz.prog 46 c_ref11_Replaced := con_ok (ConsOK.cons ok_ref01_Leaf (ConsOK.cons ok_ref01_Below (ConsOK.nil))) L_ref11_Replaced Ls_ref11_Replaced (B := B_ref11_Replaced) (BodiesOK.nil) Tryz.func46 rfl fun x y hf h => (run_ref11_Replaced x).trans (eq_ref11_Replaced x y hf h)
noncomputable def L_ref11_Next : List (Nat × LD) := [(10, ⟨⟨[(2, .ptr 0 []), (3, .ptr 1 []), (4, .ptr 2 []), (9, .row (.st .seat)), (34, .hole (.list .i)), (35, .hole .i), (36, .hole .i)], [(0, (.st .tree), .hole (.st .tree)), (1, (.st .batch), .hole (.st .batch)), (2, (.st .tree), .hole (.st .tree))], []⟩, [(.exit 0, ⟨[(2, .ptr 0 []), (3, .ptr 1 []), (4, .ptr 2 []), (9, .row (.st .seat))], [(0, (.st .tree), .hole (.st .tree)), (1, (.st .batch), .hole (.st .batch)), (2, (.st .tree), .hole (.st .tree))], []⟩)], 13, []⟩)]
noncomputable def Ls_ref11_Next : List (Nat × List (Nat × LD)) := []
noncomputable def B_ref11_Next : Bodies := []
theorem run_ref11_Next (x : denL [(.st .tree), (.st .batch)]) : run [(64, c_ref11_Check), (65, c_ref09_Fits), (59, c_ref09_Find), (46, c_ref11_Replaced), (66, c_ref10_Turn), (67, c_ref09_Move)] L_ref11_Next Ls_ref11_Next B_ref11_Next Tryz.f43 [(.st .tree), (.st .batch)] [(.st .tree), (.list (.st .seat)), (.list (.st .seat)), .i] x = g_ref11_Next x := by kernel_rfl
theorem ok_ref11_Next : ConOK Tryz.prog 43 c_ref11_Next := con_ok (ConsOK.cons ok_ref11_Check (ConsOK.cons ok_ref09_Fits (ConsOK.cons ok_ref09_Find (ConsOK.cons ok_ref11_Replaced (ConsOK.cons ok_ref10_Turn (ConsOK.cons ok_ref09_Move (ConsOK.nil))))))) L_ref11_Next Ls_ref11_Next (B := B_ref11_Next) (BodiesOK.nil) Tryz.func43 rfl fun x y hf h => (run_ref11_Next x).trans (eq_ref11_Next x y hf h)
noncomputable def L_plan_Replaced : List (Nat × LD) := [(3, ⟨⟨[(3, .hole (.int .u64)), (6, .hole (.list (.st .seat))), (7, .hole .i), (8, .hole .i)], [], []⟩, [(.exit 0, ⟨[(3, .hole (.int .u64))], [], []⟩)], 11, []⟩)]
noncomputable def Ls_plan_Replaced : List (Nat × List (Nat × LD)) := []
noncomputable def B_plan_Replaced : Bodies := []
theorem run_plan_Replaced (x : denL [(.list (.st .seat))]) : run [(41, c_shape_Leaf), (62, c_shape_Mask), (112, c_shape_Above)] L_plan_Replaced Ls_plan_Replaced B_plan_Replaced Tryz.f74 [(.list (.st .seat))] [(.int .u32)] x = g_plan_Replaced x := by kernel_rfl
theorem ok_plan_Replaced : ConOK Tryz.prog 74 c_plan_Replaced := con_ok (ConsOK.cons ok_shape_Leaf (ConsOK.cons ok_shape_Mask (ConsOK.cons ok_shape_Above (ConsOK.nil)))) L_plan_Replaced Ls_plan_Replaced (B := B_plan_Replaced) (BodiesOK.nil) Tryz.func74 rfl fun x y hf h => (run_plan_Replaced x).trans (eq_plan_Replaced x y hf h)
noncomputable def L_bits_OnesCount64 : List (Nat × LD) := []
noncomputable def Ls_bits_OnesCount64 : List (Nat × List (Nat × LD)) := []
noncomputable def B_bits_OnesCount64 : Bodies := []
theorem run_bits_OnesCount64 (x : denL [(.int .u64)]) : run [] L_bits_OnesCount64 Ls_bits_OnesCount64 B_bits_OnesCount64 Tryz.f139 [(.int .u64)] [.i] x = g_bits_OnesCount64 x := by kernel_rfl
theorem ok_bits_OnesCount64 : ConOK Tryz.prog 139 c_bits_OnesCount64 := con_ok (ConsOK.nil) L_bits_OnesCount64 Ls_bits_OnesCount64 (B := B_bits_OnesCount64) (BodiesOK.nil) Tryz.func139 rfl fun x y hf h => (run_bits_OnesCount64 x).trans (eq_bits_OnesCount64 x y hf h)
noncomputable def L_seats_Count : List (Nat × LD) := []
noncomputable def Ls_seats_Count : List (Nat × List (Nat × LD)) := []
noncomputable def B_seats_Count : Bodies := []
theorem run_seats_Count (x : denL [(.int .u64)]) : run [(139, c_bits_OnesCount64)] L_seats_Count Ls_seats_Count B_seats_Count Tryz.f111 [(.int .u64)] [.i] x = g_seats_Count x := by kernel_rfl
theorem ok_seats_Count : ConOK Tryz.prog 111 c_seats_Count := con_ok (ConsOK.cons ok_bits_OnesCount64 (ConsOK.nil)) L_seats_Count Ls_seats_Count (B := B_seats_Count) (BodiesOK.nil) Tryz.func111 rfl fun x y hf h => (run_seats_Count x).trans (eq_seats_Count x y hf h)
noncomputable def L_seats_bit : List (Nat × LD) := []
noncomputable def Ls_seats_bit : List (Nat × List (Nat × LD)) := []
noncomputable def B_seats_bit : Bodies := []
theorem run_seats_bit (x : denL [.i]) : run [] L_seats_bit Ls_seats_bit B_seats_bit Tryz.f143 [.i] [(.int .u64)] x = g_seats_bit x := by kernel_rfl
theorem ok_seats_bit : ConOK Tryz.prog 143 c_seats_bit := con_ok (ConsOK.nil) L_seats_bit Ls_seats_bit (B := B_seats_bit) (BodiesOK.nil) Tryz.func143 rfl fun x y hf h => (run_seats_bit x).trans (eq_seats_bit x y hf h)
noncomputable def L_plan_nodeKey : List (Nat × LD) := []
noncomputable def Ls_plan_nodeKey : List (Nat × List (Nat × LD)) := []
noncomputable def B_plan_nodeKey : Bodies := []
theorem run_plan_nodeKey (x : denL [(.st .tree), .i]) : run [(118, c_shape_Slot), (119, c_ratchet_LeafAt)] L_plan_nodeKey Ls_plan_nodeKey B_plan_nodeKey Tryz.f81 [(.st .tree), .i] [(.st .key)] x = g_plan_nodeKey x := by kernel_rfl
theorem ok_plan_nodeKey : ConOK Tryz.prog 81 c_plan_nodeKey := con_ok (ConsOK.cons ok_shape_Slot (ConsOK.cons ok_ratchet_LeafAt (ConsOK.nil))) L_plan_nodeKey Ls_plan_nodeKey (B := B_plan_nodeKey) (BodiesOK.nil) Tryz.func81 rfl fun x y hf h => (run_plan_nodeKey x).trans (eq_plan_nodeKey x y hf h)
noncomputable def L_plan_leavers : List (Nat × LD) := [(3, ⟨⟨[(2, .ptr 0 []), (5, .row (.st .seat)), (8, .hole (.list .i)), (9, .hole .i), (10, .hole .i)], [(0, (.arr 64 (.st .entry)), .hole (.arr 64 (.st .entry)))], []⟩, [(.exit 0, ⟨[(5, .row (.st .seat))], [], []⟩)], 13, []⟩)]
noncomputable def Ls_plan_leavers : List (Nat × List (Nat × LD)) := []
noncomputable def B_plan_leavers : Bodies := []
theorem run_plan_leavers (x : denL [(.arr 64 (.st .entry)), (.list .i)]) : run [(36, c_roster_Find)] L_plan_leavers Ls_plan_leavers B_plan_leavers Tryz.f75 [(.arr 64 (.st .entry)), (.list .i)] [(.list (.st .seat))] x = g_plan_leavers x := by kernel_rfl
theorem ok_plan_leavers : ConOK Tryz.prog 75 c_plan_leavers := con_ok (ConsOK.cons ok_roster_Find (ConsOK.nil)) L_plan_leavers Ls_plan_leavers (B := B_plan_leavers) (BodiesOK.nil) Tryz.func75 rfl fun x y hf h => (run_plan_leavers x).trans (eq_plan_leavers x y hf h)
noncomputable def L_roster_names : List (Nat × LD) := []
noncomputable def Ls_roster_names : List (Nat × List (Nat × LD)) := [(57, [(2, ⟨⟨[(0, .asl 0 []), (1, .fn 141 [1, 2]), (7, .hole .i), (8, .hole .i)], [(0, (.arr 64 (.st .entry)), .hole (.arr 64 (.st .entry))), (1, .i, .hole .i), (2, .i, .hole .i)], []⟩, [(.ret, ⟨[(4, .hole .i)], [(0, (.arr 64 (.st .entry)), .hole (.arr 64 (.st .entry))), (1, .i, .hole .i), (2, .i, .hole .i)], []⟩), (.exit 0, ⟨[], [(0, (.arr 64 (.st .entry)), .hole (.arr 64 (.st .entry))), (1, .i, .hole .i), (2, .i, .hole .i)], []⟩)], 10, []⟩)])]
noncomputable def B_roster_names : Bodies := [bodyLine 141 Tryz.f141, bodyLine 140 Tryz.f140, bodyLine 57 Tryz.f57]
theorem run_roster_names (x : denL [(.arr 64 (.st .entry)), .i, .i]) : run [] L_roster_names Ls_roster_names B_roster_names Tryz.f115 [(.arr 64 (.st .entry)), .i, .i] [.bool] x = g_roster_names x := by kernel_rfl
theorem ok_roster_names : ConOK Tryz.prog 115 c_roster_names := con_ok (ConsOK.nil) L_roster_names Ls_roster_names (B := B_roster_names) (BodiesOK.cons Tryz.func141 rfl (BodiesOK.cons Tryz.func140 rfl (BodiesOK.cons Tryz.func57 rfl (BodiesOK.nil)))) Tryz.func115 rfl fun x y hf h => (run_roster_names x).trans (eq_roster_names x y hf h)
noncomputable def L_roster_Fits : List (Nat × LD) := []
noncomputable def Ls_roster_Fits : List (Nat × List (Nat × LD)) := [(110, [(2, ⟨⟨[(1, .hole .bool), (2, .hole .i), (3, .ptr 3 []), (4, .ptr 0 []), (11, .hole (.list .i)), (12, .hole .i), (13, .hole .i)], [(0, (.arr 64 (.st .entry)), .hole (.arr 64 (.st .entry))), (1, (.st .batch), .hole (.st .batch)), (3, .bool, .mp 2)], [(2, .i, .i)]⟩, [(.ret, ⟨[(8, .hole .i)], [(0, (.arr 64 (.st .entry)), .hole (.arr 64 (.st .entry))), (1, (.st .batch), .hole (.st .batch)), (3, .bool, .mp 2)], [(2, .i, .i)]⟩), (.exit 0, ⟨[], [(0, (.arr 64 (.st .entry)), .hole (.arr 64 (.st .entry))), (1, (.st .batch), .hole (.st .batch)), (3, .bool, .mp 2)], [(2, .i, .i)]⟩)], 10, []⟩)])]
noncomputable def B_roster_Fits : Bodies := [bodyLine 110 Tryz.f110]
theorem run_roster_Fits (x : denL [(.arr 64 (.st .entry)), (.st .batch)]) : run [(109, c_roster_Check), (36, c_roster_Find), (82, c_roster_Taken), (111, c_seats_Count)] L_roster_Fits Ls_roster_Fits B_roster_Fits Tryz.f73 [(.arr 64 (.st .entry)), (.st .batch)] [.i] x = g_roster_Fits x := by kernel_rfl
theorem ok_roster_Fits : ConOK Tryz.prog 73 c_roster_Fits := con_ok (ConsOK.cons ok_roster_Check (ConsOK.cons ok_roster_Find (ConsOK.cons ok_roster_Taken (ConsOK.cons ok_seats_Count (ConsOK.nil))))) L_roster_Fits Ls_roster_Fits (B := B_roster_Fits) (BodiesOK.cons Tryz.func110 rfl (BodiesOK.nil)) Tryz.func73 rfl fun x y hf h => (run_roster_Fits x).trans (eq_roster_Fits x y hf h)
noncomputable def L_keytree_Start : List (Nat × LD) := [(3, ⟨⟨[(0, .ptr 0 []), (1, .ptr 1 []), (4, .hole .i)], [(0, (.st .tree), .hole (.st .tree)), (1, (.st .tree), .hole (.st .tree))], []⟩, [(.exit 0, ⟨[(0, .ptr 0 []), (1, .ptr 1 [])], [(0, (.st .tree), .hole (.st .tree)), (1, (.st .tree), .hole (.st .tree))], []⟩)], 10, []⟩)]
noncomputable def Ls_keytree_Start : List (Nat × List (Nat × LD)) := []
noncomputable def B_keytree_Start : Bodies := []
theorem run_keytree_Start (x : denL []) : run [] L_keytree_Start Ls_keytree_Start B_keytree_Start Tryz.f26 [] [(.st .tree)] x = g_keytree_Start x := by kernel_rfl
theorem ok_keytree_Start : ConOK Tryz.prog 26 c_keytree_Start := con_ok (ConsOK.nil) L_keytree_Start Ls_keytree_Start (B := B_keytree_Start) (BodiesOK.nil) Tryz.func26 rfl fun x y hf h => (run_keytree_Start x).trans (eq_keytree_Start x y hf h)
noncomputable def L_shape_Below : List (Nat × LD) := []
noncomputable def Ls_shape_Below : List (Nat × List (Nat × LD)) := []
noncomputable def B_shape_Below : Bodies := []
theorem run_shape_Below (x : denL [.i, .i]) : run [(61, c_shape_Level), (62, c_shape_Mask)] L_shape_Below Ls_shape_Below B_shape_Below Tryz.f40 [.i, .i] [.bool] x = g_shape_Below x := by kernel_rfl
theorem ok_shape_Below : ConOK Tryz.prog 40 c_shape_Below := con_ok (ConsOK.cons ok_shape_Level (ConsOK.cons ok_shape_Mask (ConsOK.nil))) L_shape_Below Ls_shape_Below (B := B_shape_Below) (BodiesOK.nil) Tryz.func40 rfl fun x y hf h => (run_shape_Below x).trans (eq_shape_Below x y hf h)
end Go.Proofs.YtghlolinkmlkeaaGreatDoor
end

section
namespace Go.Co
open Go Go.RowKit

/-- It speaks of cells alone. -/
structure Cl {α : Type} (n0 : Nat) (I : List α → World → Prop) : Prop where
  alloc : ∀ s A o, o.isCells = false → I s A → I s (A.alloc o)
  putObj : ∀ s A l o o', n0 ≤ l → I s A → A.heap[l]? = some o → o.isCells = false → o'.isCells = false → I s (A.putObj l o')
/-- What a round must achieve. -/
def roundPost {α : Type} (Be : Nat) (I : List α → World → Prop) (Ix : Code → List α → World → Prop) (xs : List α) (W : World) : Exit → Act → World → Prop
  | .normal, _, W' => KeepsOthers W W' ∧ W'.heap[Be]? = W.heap[Be]? ∧ I xs W'
  | .ret, _, W' => KeepsOthers W W' ∧ Ix .ret xs W'
  | .exit id, _, W' => KeepsOthers W W' ∧ Ix (.exit id) xs W'
  | _, _, _ => False
theorem rangeFunc_box {F : Fence} {n : Nat} {P : Program} {α : Type} {g : Operand} {ps : Array Tmp} {assign body : Code} {Q : Exit → Act → World → Prop} {a : Act} {w : World}
    (hro : F.round = none) (h1 : 1 ≤ n) {gf : Nat} {lb : Array Value} (hg : a.eval g = .func (.func gf) #[] lb) (hFg : F.fn gf) (eg : ∀ args w, (callFunc gf args).run P w = .ok (.enter gf args) w)
    {encs : α → Array Value} {Be : Nat} {tB : TypeId} {xB : Value} {G : World → Prop} {xs : List α} (hps : ∀ x, (encs x).size = ps.size)
    (hseq : ∀ (l : Nat) (J Jx : List α → World → Prop) (W : World), (∀ pre A x v, J pre A → Boxed A Be tB x → J pre (A.setCell ⟨Be, 0, none⟩ v)) → (∀ pre A, J pre A → G A) →
      (∀ pre x W, J pre W → pre ++ [x] <+: xs → YieldAt F (n - 1 - 1) P l (encs x) W fun e W' => (e = .returned (.bool true) ∧ J (pre ++ [x]) W' ∧ W'.heap[Be]? = W.heap[Be]?) ∨ (e = .returned (.bool false) ∧ Jx (pre ++ [x]) W')) →
      Boxed W Be tB xB → J [] W → CallsIn F (n - 1) P gf (#[.func (.yield l) #[] #[]] ++ lb) W fun e W' => (∃ v, e = .returned v) ∧ (J xs W' ∨ ∃ pre, pre <+: xs ∧ Jx pre W'))
    (hB : Boxed w Be tB xB) (I : List α → World → Prop) (Ix : Code → List α → World → Prop) (hI : Cl w.heap.size I) (hIx : ∀ c, Cl w.heap.size (Ix c)) (hset : ∀ pre A x v, I pre A → Boxed A Be tB x → I pre (A.setCell ⟨Be, 0, none⟩ v)) (hG : ∀ pre A, I pre A → G A) (h0 : I [] w) (a₁ : α → Act)
    (hassign : ∀ (l : Nat) (x : α) (W : World) (K : Act → World → Prop), K (a₁ x) W →
      assign.wpIn (F.inRound l) (n - 1 - 1) P (Exit.then K (fun _ _ _ => False)) { tmps := (ps.zip (encs x)).foldl (fun t (p, v) => t.setIfInBounds p v) a.tmps, defers := [] } W)
    (hbody : ∀ (l : Nat) (pre : List α) (x : α) (W : World), I pre W → pre ++ [x] <+: xs → body.wpIn (F.inRound l) (n - 1 - 1) P (roundPost Be I Ix (pre ++ [x]) W) (a₁ x) W)
    (hdone : ∀ (D : Nat) (W : World), I xs W → W.heap[D]? = some (.deferred (some [])) → w.heap.size ≤ D → Q .normal { a with defers := { target := .collected D, args := #[] } :: a.defers } W)
    (hstop : ∀ (D : Nat) (c : Code) (pre : List α) (W : World), pre <+: xs → Ix c pre W → W.heap[D]? = some (.deferred (some [])) → w.heap.size ≤ D → c.wpIn F n P Q { a with defers := { target := .collected D, args := #[] } :: a.defers } W) :
    (Code.rangeFunc g ps assign body).wpIn F n P Q a w := by
  refine wpIn_rangeFunc ?_
  intro fn hfn
  rw [hro]
  obtain ⟨rec, hrec⟩ : ∃ rec : LoopState → Option Code → Loop, rec = fun st pe => { state := st, pending := pe, fn, tmps := a.tmps, params := ps, assign, body, defers := w.heap.size } := ⟨_, rfl⟩
  obtain ⟨W1, hW1⟩ : ∃ W1, (w.alloc (.deferred (some []))).alloc (.loop (rec .ready none)) = W1 := ⟨_, rfl⟩
  have hL1 : W1.heap[w.heap.size + 1]? = some (.loop (rec .ready none)) := by
    rw [← hW1]; have := World.alloc_heap_new (w.alloc (.deferred (some []))) (.loop (rec .ready none)); rwa [World.size_alloc] at this
  have hK1 : W1.heap[w.heap.size]? = some (.deferred (some [])) := by
    rw [← hW1]; exact (Below.heap_alloc _ _ _ (by simp)).trans (World.alloc_heap_new w _)
  have hI1 : I [] W1 := by rw [← hW1]; exact hI.alloc _ _ _ rfl (hI.alloc _ _ _ rfl h0)
  have hB1 : Boxed W1 Be tB xB := by rw [← hW1]; exact (hB.alloc _).alloc _
  have hBlt : Be < w.heap.size := hB.lt
  refine ⟨w.heap.size + 1, [{ target := .collected w.heap.size, args := #[] }], W1, { target := .fn (.func gf) lb, args := #[.func (.yield (w.heap.size + 1)) #[] #[]] }, W1, gf,
    #[.func (.yield (w.heap.size + 1)) #[] #[]] ++ lb, W1, ?_, ?_, ?_, ?_, fun _ => h1, ?_⟩
  · rw [← hW1, hrec]; exact run_enterLoop_outer _ _ _ _ _
  · simp only [resolve, hg]
    simp [go_sem]
  · intro f' hf'; simp [Target.leads] at hf'; subst hf'; exact hFg
  · simp [invoke, go_sem, eg]
  · refine (hseq (w.heap.size + 1)
      (fun pre W => I pre W ∧ W.heap[w.heap.size + 1]? = some (.loop (rec .ready none)) ∧ W.heap[w.heap.size]? = some (.deferred (some [])))
      (fun pre W => ∃ c, Ix c pre W ∧ W.heap[w.heap.size + 1]? = some (.loop (rec .done (some c))) ∧ W.heap[w.heap.size]? = some (.deferred (some [])))
      W1 ?_ (fun pre A h => hG pre A h.1) ?_ hB1 ⟨hI1, hL1, hK1⟩).mono ?_
    · rintro pre A x v ⟨hi, hl, hk⟩ hb
      exact ⟨hset _ _ _ _ hi hb, (KeepsOthers.setCell A _ v).same _ _ hl rfl, (KeepsOthers.setCell A _ v).same _ _ hk rfl⟩
    · -- one round
      rintro pre x W ⟨hi, hl, hk⟩ hpre
      have hlt : w.heap.size + 1 < W.heap.size := (Array.getElem?_eq_some_iff.1 hl).1
      have hy := run_yield (P := P) (args := encs x) hl (by rw [hrec]; exact hps x)
      rw [hrec] at hy
      refine ⟨fn, _, assign, body, hy, roundIn_of_wpIn hfn (hassign _ x W _ ⟨_, run_beginRound hl (by rw [hrec]), ?_⟩)⟩
      have hl2 : (W.putObj (w.heap.size + 1) (.loop { rec .ready none with state := .busy })).heap[w.heap.size + 1]? = some (.loop { rec .ready none with state := .busy }) := World.putObj_heap_same hlt
      have hk2 : (W.putObj (w.heap.size + 1) (.loop { rec .ready none with state := .busy })).heap[w.heap.size]? = some (.deferred (some [])) := (World.putObj_heap_other (by omega)).trans hk
      have hb2 : (W.putObj (w.heap.size + 1) (.loop { rec .ready none with state := .busy })).heap[Be]? = W.heap[Be]? := World.putObj_heap_other (by omega)
      refine wpIn_mono (hbody _ pre x _ (hI.putObj _ _ _ _ _ (by omega) hi hl rfl rfl) hpre) ?_
      have fin : ∀ (jump : Option Code) (W3 : World), KeepsOthers (W.putObj (w.heap.size + 1) (.loop { rec .ready none with state := .busy })) W3 →
          (Instr.endRound (w.heap.size + 1) jump).run P W3 = .ok (.bool jump.isNone) (W3.putObj (w.heap.size + 1) (.loop (rec (if jump.isNone then .ready else .done) jump))) ∧
          W3.heap[w.heap.size + 1]? = some (.loop { rec .ready none with state := .busy }) ∧
          (W3.putObj (w.heap.size + 1) (.loop (rec (if jump.isNone then .ready else .done) jump))).heap[w.heap.size + 1]? = some (.loop (rec (if jump.isNone then .ready else .done) jump)) ∧
          (W3.putObj (w.heap.size + 1) (.loop (rec (if jump.isNone then .ready else .done) jump))).heap[w.heap.size]? = some (.deferred (some [])) := fun jump W3 hk3 => by
        have hl3 := hk3.same _ _ hl2 rfl
        have := run_endRound (P := P) jump hl3
        rw [hrec] at this ⊢
        exact ⟨this, by rw [hrec] at hl3; exact hl3, World.putObj_heap_same (Array.getElem?_eq_some_iff.1 hl3).1, (World.putObj_heap_other (by omega)).trans (hk3.same _ _ hk2 rfl)⟩
      rintro e a3 W3 hp
      cases e with
      | normal =>
        obtain ⟨hk3, hb3, hi3⟩ := hp
        obtain ⟨hr, hl3, hl4, hk4⟩ := fin none W3 hk3
        exact ⟨_, _, hr, .inl ⟨rfl, ⟨hI.putObj _ _ _ _ _ (by omega) hi3 hl3 rfl rfl, hl4, hk4⟩, ((World.putObj_heap_other (by omega)).trans hb3).trans hb2⟩⟩
      | ret =>
        obtain ⟨hk3, hi3⟩ := hp
        obtain ⟨hr, hl3, hl4, hk4⟩ := fin (some .ret) W3 hk3
        exact ⟨_, _, hr, .inr ⟨rfl, .ret, (hIx _).putObj _ _ _ _ _ (by omega) hi3 hl3 rfl rfl, hl4, hk4⟩⟩
      | exit id =>
        obtain ⟨hk3, hi3⟩ := hp
        obtain ⟨hr, hl3, hl4, hk4⟩ := fin (some (.exit id)) W3 hk3
        exact ⟨_, _, hr, .inr ⟨rfl, .exit id, (hIx _).putObj _ _ _ _ _ (by omega) hi3 hl3 rfl rfl, hl4, hk4⟩⟩
      | goto t => exact hp.elim
      | panic ch => exact hp.elim
      | outgrown => exact hp.elim
    · -- behind the iterator
      rintro e W2 ⟨⟨v, rfl⟩, (⟨hi, hl, hk⟩ | ⟨pre, hpre, c, hi, hl, hk⟩)⟩
      · exact ⟨none, _, by have := run_endLoop (P := P) hl (by rw [hrec]; simp); rw [hrec] at this; exact this, hdone _ _ (hI.putObj _ _ _ _ _ (by omega) hi hl rfl rfl) ((World.putObj_heap_other (by omega)).trans hk) (Nat.le_refl _)⟩
      · exact ⟨some c, _, by have := run_endLoop (P := P) hl (by rw [hrec]; simp); rw [hrec] at this; exact this, hstop _ c pre _ hpre ((hIx c).putObj _ _ _ _ _ (by omega) hi hl rfl rfl) ((World.putObj_heap_other (by omega)).trans hk) (Nat.le_refl _)⟩

/-! ### Nothing is frozen by an append -/
theorem fz_alloc (w : World) (o : Obj) (ho : ∀ cs e f, o = .cells cs e f → f = (0, 0)) (a : Addr) : (w.alloc o).frozen? a = w.frozen? a := by
  by_cases h : a.block = w.heap.size
  · have h1 : (w.alloc o).heap[a.block]? = some o := by rw [h]; exact World.alloc_heap_new w o
    have h2 : w.heap[a.block]? = none := by rw [h]; simp
    unfold World.frozen?
    rw [h1, h2]
    cases o with
    | cells cs e f => have := ho cs e f rfl; subst this; simp
    | _ => rfl
  · by_cases hlt : a.block < w.heap.size
    · exact frozen_same (Below.heap_alloc _ _ _ hlt)
    · have h1 : (w.alloc o).heap[a.block]? = none := Array.getElem?_eq_none (by have := World.size_alloc w o; omega)
      have h2 : w.heap[a.block]? = none := Array.getElem?_eq_none (by omega)
      exact frozen_same (h1.trans h2.symm)
theorem fz_append {P : Program} {w : World} {base : Nat} {t ty e : TypeId} {i : TypeInfo} {z : Value} (ht : P.underlying t = some (.slice e)) (hi : P.info? e = some i) (hz : i.zero = some z)
    {v : Value} {n : Nat} {xs : List Value} (hown : w.ownsRow base e i.size v n xs) {a : Addr} {m c : Nat} {news : List Value} (hl : news.length = m * i.size) (hnews : ∀ j u, news[j]? = some u → w.cell? (a.add j) = some u) (h1 : ∀ u ∈ news, u.oneCell' = true)
    (hm : 0 < m) (h63 : n + m ≤ maxLen) (hbytes : (n + m) * i.bytes ≤ 140737488355328) {v' : Value} {w' : World} (hrun : (Builtin.append_ #[t, t] ty #[v, .slice (some a) m c]).run P w = .ok v' w') (b : Addr) : w'.frozen? b = w.frozen? b := by
  have hsmall : n + m ≤ 9223372036854775807 := by simp only [maxLen] at h63; omega
  have new : ∀ cs : Array Value, (w.drew.alloc (.cells cs e)).frozen? b = w.frozen? b := fun cs => (fz_alloc w.drew _ (fun _ _ _ h => by cases h; rfl) b).trans rfl
  rcases hown.2 with ⟨rfl, rfl⟩ | ⟨g, cap, cur, rfl, _, hg, _, _, hcs, _⟩
  · rw [run_append_nil (P := P) w t ty e i z ht hi hz a m c news hl hnews hm (by omega) (by simp only [Nat.zero_add] at hbytes; omega)] at hrun
    cases hrun; exact new _
  · by_cases hroom : n + m ≤ cap
    · have hfit : n * i.size + news.length ≤ cur.size := by rw [hl, hcs, ← Nat.add_mul]; exact Nat.mul_le_mul_right _ hroom
      rw [run_append_room (P := P) w t ty e i ht hi g n cap cur hg a m c news hl hnews h1 hroom hfit] at hrun
      cases hrun
      by_cases hb : b.block = g
      · have := setRow_heap w g cur (cur.toList.take (n * i.size) ++ news ++ cur.toList.drop (n * i.size + news.length)).toArray e (0, 0) hg
        unfold World.frozen?
        rw [hb, this, hg]
      · exact frozen_same (setRow_other w g b.block _ hb)
    · have holds : ∀ j u, xs[j]? = some u → w.cell? ((⟨g, 0, none⟩ : Addr).add j) = some u := hown.cells (g := g) rfl
      rw [run_append_grow (P := P) w t ty e i z ht hi hz ⟨g, 0, none⟩ n cap xs hown.1 holds a m c news hl hnews (by omega) (by omega) (growslice_fits (by omega) hbytes)] at hrun
      cases hrun; exact new _
/-- An append to a row of one's own, in a walk; nothing is frozen by it. -/
theorem wpListIn_append_fz {F : Fence} {k : Nat} {P : Program} (w : World) {ops : Array Oper} {rest : List Oper} {o : Oper} {a : Act} {Q : Exit → Act → World → Prop}
    (hg : o.guard = none) (s x : Operand) (t : TypeId) (hop : o.op = Op.call { callee := Callee.builtin Builtin.append, args := #[s, x], argTypes := #[t, t] })
    (base : Nat) (e : TypeId) (i : TypeInfo) (z : Value) (size bytes : Nat) (h1 : P.underlying t = some (.slice e)) (h2 : P.info? e = some i) (h3 : i.zero = some z) (h4 : i.size = size) (h5 : i.bytes = bytes) (h6 : z.cells.size = size) (h7 : 0 < size)
    (v : Value) (n : Nat) (xs : List Value) (hs : a.eval s = v) (hown : w.ownsRow base e size v n xs) (ad : Addr) (m c : Nat) (news : List Value) (hx : a.eval x = .slice (some ad) m c) (hn : news.length = m * size)
    (hc : ∀ j u, news[j]? = some u → w.cell? (ad.add j) = some u) (h1c : ∀ u ∈ news, u.oneCell' = true) (hm : 0 < m) (b1 : n + m ≤ maxLen) (b2 : (n + m) * bytes ≤ 140737488355328) (b3 : base ≤ w.heap.size)
    (hK : ∀ v' w', w'.ownsRow base e size v' (n + m) (xs ++ news) → w.grownBy w' v.ownBlock → (v' = .slice none 0 0 ↔ v = .slice none 0 0 ∧ m = 0) → (∀ b, w'.frozen? b = w.frozen? b) → wpListIn F k P ops Q rest (a.put o.dst v') w') :
    wpListIn F k P ops Q (o :: rest) a w := by
  refine wpListIn_plain hg fun K hK' => ?_
  obtain ⟨v', w', hrun, r1, r2, r3⟩ := run_append_own (P := P) w base t o.type e i z size bytes h1 h2 h3 h4 h5 h6 h7 v n xs hown ad m c news hn hc h1c b1 b2 b3
  subst h4; subst h5
  have hz := fun b => fz_append h1 h2 h3 hown hn hc h1c hm b1 b2 hrun b
  unfold Oper.wpIn
  refine ⟨?_, ?_⟩
  · simp [Oper.about, hop, resolve, Target.leads, Sem.run_pure]
  · rw [Oper.semAt_plain F _ _ (by rw [hop]; intro c hc'; cases hc')]
    simp [execOp, hop, resolve, invoke, builtin, hs, hx, hrun, Result.andThen]
    exact hK' _ _ (hK v' w' r1 r2 r3 hz)
end Go.Co
end

section
namespace Go.Proofs.YtghlolinkmlkeaaGreatDoor
open Go Go.Co Go.Co.N Go.Proofs Go.RowKit Go.Shelf
attribute [local go_sem] Oper.semAt_some

theorem low_walk {x : Nat} (h0 : 0 < x) (h1 : x < 18446744073709551616) : 0 ≤ IntKind.u64.wrap (Go.bits BinOp.and IntKind.u64 (x : Int) (IntKind.u64.wrap (-(x : Int))) * 285870213051353865) / 288230376151711744 ∧
    IntKind.u64.wrap (Go.bits BinOp.and IntKind.u64 (x : Int) (IntKind.u64.wrap (-(x : Int))) * 285870213051353865) / 288230376151711744 < 64 ∧
    tab64[(IntKind.u64.wrap (Go.bits BinOp.and IntKind.u64 (x : Int) (IntKind.u64.wrap (-(x : Int))) * 285870213051353865) / 288230376151711744).toNat]? = some (tzN x) := by
  have e1 : IntKind.u64.wrap (-(x : Int)) = ((18446744073709551616 - x : Nat) : Int) := by
    show (-(x : Int)) % 18446744073709551616 = _
    omega
  have e2 : Go.bits BinOp.and IntKind.u64 (x : Int) ((18446744073709551616 - x : Nat) : Int) = ((x &&& (18446744073709551616 - x) : Nat) : Int) := bw_and64 _ _ h1 (by omega)
  have e3 : IntKind.u64.wrap (((x &&& (18446744073709551616 - x) : Nat) : Int) * 285870213051353865) = (((x &&& (18446744073709551616 - x)) * 285870213051353865 % 18446744073709551616 : Nat) : Int) := by
    show (((x &&& (18446744073709551616 - x) : Nat) : Int) * 285870213051353865) % 18446744073709551616 = _
    omega
  have hlt : (x &&& (18446744073709551616 - x)) * 285870213051353865 % 18446744073709551616 < 18446744073709551616 := Nat.mod_lt _ (by omega)
  rw [e1, e2, e3]
  refine ⟨by omega, by omega, ?_⟩
  have := tab_low h0 (show x < 2 ^ 64 by omega)
  rw [show (((((x &&& (18446744073709551616 - x)) * 285870213051353865 % 18446744073709551616 : Nat) : Int)) / 288230376151711744).toNat = (x &&& (18446744073709551616 - x)) * 285870213051353865 % 18446744073709551616 / 288230376151711744 by omega]
  exact this
theorem glob_name : ∃ gl, Tryz.prog.globals[0]? = some gl ∧ gl.name = "math/bits.deBruijn64tab" := by
  have h : (Tryz.prog.globals[0]?.map (·.name)) = some "math/bits.deBruijn64tab" := by kernel_rfl
  cases hg : Tryz.prog.globals[0]? with
  | none => rw [hg] at h; cases h
  | some gl => rw [hg] at h; exact ⟨gl, rfl, Option.some.inj h⟩
theorem wrap_tz {x : Nat} (h0 : 0 < x) (h1 : x < 18446744073709551616) : wrap64 (tzN x : Int) = (tzN x : Int) := by
  have := (bitsL_cons h0 (show x < 2 ^ 64 by omega)).1
  exact Go.IntWalk.wrap64_in _ (by omega)
set_option maxHeartbeats 1000000 in
theorem tz_in (F : Fence) (n : Nat) (hF : F.fn 150) (hro : F.round = none) (x : Nat) (h0 : 0 < x) (h1 : x < 18446744073709551616) (w : World) (hg : GOK Tryz.prog w) :
    CallsIn F n Tryz.prog 150 #[.int .u64 (x : Int)] w fun e w' => e = .returned (.int .i64 (tzN x : Int)) ∧ w' = w := by
  obtain ⟨b1, b2, b3⟩ := low_walk h0 h1
  obtain ⟨gl, g1, g2⟩ := glob_name
  have hc := hg 0 gl g1 g2 _ _ b3
  have hx : ¬ (x : Int) = 0 := by omega
  have hx2 : ((x : Int) == 0) = false := by simpa using hx
  refine callsIn_of_wp Tryz.func150 rfl hF ?_ hro
  simp only [Tryz.ntmps150, List.size_toArray, List.length_cons, List.length_nil, Nat.reduceAdd, Nat.reduceSub, Array.replicate_succ, Array.replicate_zero, List.push_toArray, List.append_toArray, List.nil_append, List.cons_append]
  gi_wp2
  rw [wrap_tz h0 h1]
  go_ret
  exact ⟨rfl, rfl⟩

/-! ### The iterator -/
/-- What a box holds of a word. -/
def boxW (W : World) (B : Nat) : Nat := match W.cell? ⟨B, 0, none⟩ with | some (.int _ x) => x.toNat | _ => 0
theorem boxW_eq {W : World} {B x : Nat} {t : TypeId} (h : Boxed W B t (.int .u64 (x : Int))) : boxW W B = x := by
  unfold boxW; rw [h.cell]; simp
theorem pred_walk {x : Nat} (h0 : 0 < x) (h1 : x < 18446744073709551616) : Go.bits BinOp.and IntKind.u64 (x : Int) ((x : Int) - 1) = ((x &&& (x - 1) : Nat) : Int) := by
  have e1 : (x : Int) - 1 = ((x - 1 : Nat) : Int) := by omega
  rw [e1]
  exact bw_and64 _ _ h1 (by omega)
set_option maxRecDepth 100000 in
set_option maxHeartbeats 2000000 in
theorem each1_in (F : Fence) (n : Nat) (h103 : F.fn 149) (h104 : F.fn 150) (hro : F.round = none) (hn : 1 ≤ n) (l Be : Nat) (x0 : Nat) (hx0 : x0 < 18446744073709551616) (J Jx : List Nat → World → Prop)
    (hJ : ∀ pre A x v, J pre A → Boxed A Be 98 x → J pre (A.setCell ⟨Be, 0, none⟩ v)) (hJg : ∀ pre A, J pre A → GOK Tryz.prog A)
    (hY : ∀ (pre : List Nat) (x : Nat) W, J pre W → pre ++ [x] <+: bitsL x0 → YieldAt F (n - 1) Tryz.prog l #[.int .i64 (x : Int)] W fun e W' =>
      (e = .returned (.bool true) ∧ J (pre ++ [x]) W' ∧ W'.heap[Be]? = W.heap[Be]?) ∨ (e = .returned (.bool false) ∧ Jx (pre ++ [x]) W'))
    (W : World) (hBe : Boxed W Be 98 (.int .u64 (x0 : Int))) (h0 : J [] W) :
    CallsIn F n Tryz.prog 149 #[.func (.yield l) #[] #[], .pointer (some ⟨Be, 0, none⟩)] W fun e W' => (∃ v, e = .returned v) ∧ (J (bitsL x0) W' ∨ (∃ pre, pre <+: bitsL x0 ∧ Jx pre W')) := by
  refine callsIn_of_wp Tryz.func149 rfl h103 ?_ hro
  simp only [Tryz.ntmps149, List.size_toArray, List.length_cons, List.length_nil, Nat.reduceAdd, Nat.reduceSub, Array.replicate_succ, Array.replicate_zero, List.push_toArray, List.append_toArray, List.nil_append, List.cons_append]
  gi_wp2
  gi_loopw [] (fun wr => ∃ (pre : List Nat) (rem : Nat), bitsL x0 = pre ++ bitsL rem ∧ rem < 18446744073709551616 ∧ Boxed wr Be 98 (.int .u64 (rem : Int)) ∧ J pre wr)
    (fun wr => boxW wr Be)
  case atStart => exact ⟨[], x0, rfl, hx0, hBe, h0⟩
  case round =>
    obtain ⟨pre, rem, hx, hlt, hb, hJs⟩ := hrel
    have hc := hb.cell
    by_cases hz : rem = 0
    · subst hz
      have hz0 : (((0 : Nat) : Int) == 0) = true := rfl
      gi_wp2
      go_end0
      rw [bitsL_zero, List.append_nil] at hx
      exact ⟨⟨_, rfl⟩, .inl (by rw [hx]; exact hJs)⟩
    · have hz0 : (((rem : Nat) : Int) == 0) = false := by simpa using hz
      obtain ⟨k1, k2, k3⟩ := bitsL_cons (show 0 < rem by omega) (show rem < 2 ^ 64 by omega)
      have hpre : pre ++ [tzN rem] <+: bitsL x0 := ⟨bitsL (rem &&& (rem - 1)), by rw [hx, k2]; simp⟩
      obtain ⟨fn, tmps, assign, body, hy, hR⟩ := hY pre (tzN rem) wr hJs hpre
      gi_wp2_with (gi_at_call 150; refine (tz_in F (n - 1) h104 hro rem (by omega) hlt wr (hJg _ _ hJs)).mono ?_; rintro e w' ⟨rfl, rfl⟩)
      refine hR.mono ?_
      rintro e W3 (⟨rfl, hJ3, hk3⟩ | ⟨rfl, hJx3⟩)
      · have hb3 : Boxed W3 Be 98 (.int .u64 (rem : Int)) := hk3.trans hb
        have hc3 := hb3.cell
        have hf3 := hb3.frozen
        gi_wp2
        rw [pred_walk (by omega) hlt]
        go_roundw
        case rel => exact ⟨pre ++ [tzN rem], rem &&& (rem - 1), by rw [hx, k2]; simp, by omega, hb3.set _, hJ _ _ _ _ hJ3 hb3⟩
        case measure => rw [boxW_eq (hb3.set _), boxW_eq hb]; exact k3
      · gi_wp2
        refine bodyPost_ret (results_none rfl _ _ _) rfl ?_
        exact ⟨⟨_, rfl⟩, .inr ⟨pre ++ [tzN rem], hpre, hJx3⟩⟩
set_option maxHeartbeats 1000000 in
theorem each_in (F : Fence) (n : Nat) (hF : F.fn 142) (hro : F.round = none) (x : Int) (w : World) :
    CallsIn F n Tryz.prog 142 #[.int .u64 x] w fun e w' => e = .returned (.func (.func 149) #[] #[.pointer (some ⟨w.heap.size, 0, none⟩)]) ∧ w' = w.alloc (.cells #[.int .u64 x] 98) := by
  refine callsIn_of_wp Tryz.func142 rfl hF ?_ hro
  simp only [Tryz.ntmps142, List.size_toArray, List.length_cons, List.length_nil, Nat.reduceAdd, Nat.reduceSub, Array.replicate_succ, Array.replicate_zero, List.push_toArray, List.append_toArray, List.nil_append, List.cons_append]
  gi_wp2
  go_ret
  exact ⟨rfl, rfl⟩

/-! ### The least free slots -/
theorem count_calls (h : ConOK Tryz.prog 111 c_seats_Count) (s : Nat) (hs : s < 18446744073709551616) (w : World) (hg : GOK Tryz.prog w) :
    CallsIn Fence.wide 9 Tryz.prog 111 #[.int .u64 (s : Int)] w fun e w' => e = .returned (.int .i64 (cntW (s : Int))) ∧ Blw w.heap.size w w' := by
  refine callsIn_wide.2 (Calls.mono (h.run w (fun _ => False) ((s : Int), ()) [.int .u64 (s : Int)] _ hg (fun _ h => h.elim) ⟨⟨_, rfl, Rd.int.2 ⟨rfl, ?_⟩⟩, trivial⟩ rfl) ?_)
  · rw [inKind_iff]; show 0 ≤ (s : Int) ∧ (s : Int) ≤ 18446744073709551615; omega
  · rintro e w' ⟨z, rfl, hb, cs, hz, hr⟩
    have hr := (Rd.int.1 hr).1
    subst hr
    exact ⟨by rw [hz]; rfl, hb⟩
theorem bit_calls (h : ConOK Tryz.prog 143 c_seats_bit) (i : Nat) (hi : i < 64) (w : World) (hg : GOK Tryz.prog w) :
    CallsIn Fence.wide 7 Tryz.prog 143 #[.int .i64 (i : Int)] w fun e w' => e = .returned (.int .u64 ((2 ^ i : Nat) : Int)) ∧ Blw w.heap.size w w' := by
  refine callsIn_wide.2 (Calls.mono (h.run w (fun _ => False) ((i : Int), ()) [.int .i64 (i : Int)] _ hg (fun _ h => h.elim) ⟨⟨_, rfl, Rd.int.2 ⟨rfl, ?_⟩⟩, trivial⟩ rfl) ?_)
  · rw [inKind_iff]; show -9223372036854775808 ≤ (i : Int) ∧ (i : Int) ≤ 9223372036854775807; omega
  · rintro e w' ⟨z, rfl, hb, cs, hz, hr⟩
    have hr := (Rd.int.1 hr).1
    subst hr
    refine ⟨?_, hb⟩
    rw [hz]
    show Ending.returned (Value.int IntKind.u64 (bitOf (i : Int))) = _
    unfold bitOf
    rw [if_pos ⟨by omega, by omega⟩, Int.toNat_natCast]
/-- An answer of three. -/
def takeRes (W : World) (base : Nat) (z : Value) (l : List Nat) (s : Nat) : Prop := ∃ v, z = .tuple #[v, .int .u64 (s : Int), .int .i64 0] ∧ W.ownsRow base 3 1 v l.length (l.map fun (i : Nat) => Value.int .i64 (i : Int))
theorem region_key {F : Fence} {n : Nat} {P : Program} {c : Code} {K : Act → World → Prop} {X : Exit → Act → World → Prop} {a : Act} {w : World} (a' : Act) (Inv : World → Prop) (h1 : ∀ w', Inv w' → K a' w')
    (h2 : c.wpIn F n P (Exit.then (fun a w => a = a' ∧ Inv w) (fun _ _ _ => False)) a w) : c.wpIn F n P (Exit.then K X) a w :=
  Go.wpIn_mono h2 fun e a w h => by
    cases e with
    | normal => obtain ⟨rfl, h⟩ := h; exact h1 w h
    | _ => exact h.elim
theorem region_calm {F : Fence} {n : Nat} {P : Program} {c : Code} {K : Act → World → Prop} {X : Exit → Act → World → Prop} {a : Act} {w : World} (h : c.wpIn F n P (Exit.then K (fun _ _ _ => False)) a w) : c.wpIn F n P (Exit.then K X) a w :=
  Go.wpIn_mono h fun e a w h => by cases e <;> first | exact h | exact h.elim
theorem res116 (tmps : Array Value) (w : World) : (results Tryz.f116 tmps).run Tryz.prog w = .ok (.tuple #[tmps.getD 4 undef, tmps.getD 5 undef, tmps.getD 6 undef]) w := by
  simp [results, Tryz.f116, go_sem]
theorem compl_bits {s : Nat} (hs : s < 18446744073709551616) : Go.bits BinOp.xor IntKind.u64 IntKind.u64.max (s : Int) = ((18446744073709551615 - s : Nat) : Int) := by
  have hx : bw .xor .u64 ((18446744073709551615 : Nat) : Int) (s : Int) = ((18446744073709551615 ^^^ s : Nat) : Int) :=
    bwN (op := .xor) (f := fun a b => a ^^^ b) (fun a b ha hb => Nat.xor_lt_two_pow (n := 64) ha hb) (fun a b ha hb => by
      show (BitVec.ofNat 64 a ^^^ BitVec.ofNat 64 b).toNat = _
      simp [BitVec.toNat_xor, Nat.mod_eq_of_lt ha, Nat.mod_eq_of_lt hb]) _ _ (by omega) hs
  refine hx.trans ?_
  congr 1
  apply Nat.eq_of_testBit_eq
  intro i
  have h1 := Nat.testBit_two_pow_sub_one 64 i
  have h2 := Nat.testBit_two_pow_sub_succ (n := 64) (x := s) (by omega) i
  rw [Nat.testBit_xor, show (18446744073709551615 : Nat) = 2 ^ 64 - 1 from rfl, h1, show (2 : Nat) ^ 64 - 1 - s = 2 ^ 64 - (s + 1) by omega, h2]
  by_cases hi : i < 64
  · simp [hi]
  · have : s.testBit i = false := Nat.testBit_lt_two_pow (Nat.lt_of_lt_of_le (show s < 2 ^ 64 by omega) (Nat.pow_le_pow_right (by omega) (by omega)))
    simp [hi, this]
theorem bitI_nat (s i : Nat) : bitI (s : Int) i = s.testBit i := by
  unfold bitI
  rw [Nat.testBit_eq_decide_div_mod_eq]
  congr 1
  rw [show ((s : Int) / 2 ^ i) = ((s / 2 ^ i : Nat) : Int) by simp]
  simp only [eq_iff_iff]; omega
theorem bitsL_compl {s : Nat} (hs : s < 18446744073709551616) : bitsL (18446744073709551615 - s) = freeL (s : Int) := by
  unfold bitsL freeL
  refine List.filter_congr fun i hi => ?_
  have hi : i < 64 := by simpa using hi
  have h2 := Nat.testBit_two_pow_sub_succ (n := 64) (x := s) (by omega) i
  rw [show (18446744073709551615 : Nat) - s = 2 ^ 64 - (s + 1) by omega, h2, bitI_nat]
  simp [hi]
theorem freeL_len (s : Nat) : (freeL (s : Int)).length = 64 - cntW (s : Int) := by
  unfold freeL cntW
  rw [filter_cnt, filter_cnt]
  have := cntP_not (bitI (s : Int)) 64
  omega
theorem orL_snoc (s : Nat) (l : List Nat) (i : Nat) : orL s (l ++ [i]) = orL s l ||| 2 ^ i := by simp [orL]
theorem orL_lt {s : Nat} (hs : s < 18446744073709551616) : ∀ l : List Nat, (∀ i ∈ l, i < 64) → orL s l < 18446744073709551616 := by
  intro l
  induction l generalizing s with
  | nil => intro _; exact hs
  | cons i l ih =>
    intro h
    refine ih ?_ fun j hj => h j (List.mem_cons_of_mem _ hj)
    have h2 : (2 : Nat) ^ i < 2 ^ 64 := Nat.pow_lt_pow_right (by omega) (h i (List.mem_cons_self ..))
    exact Nat.or_lt_two_pow (n := 64) hs h2
theorem or_walk {a b : Nat} (ha : a < 18446744073709551616) (hb : b < 18446744073709551616) : Go.bits BinOp.or IntKind.u64 (a : Int) (b : Int) = ((a ||| b : Nat) : Int) := bw_or64 _ _ ha hb
theorem bitsL_lt {x i : Nat} (h : i ∈ bitsL x) : i < 64 := by
  unfold bitsL at h
  simp only [List.mem_filter, List.mem_range] at h
  exact h.1
/-- What the loop keeps. -/
def takeI (w : World) (s : Nat) (n : Int) (N0 Bo : Nat) (pre : List Nat) (W : World) : Prop :=
  Blw w.heap.size w W ∧ N0 ≤ W.heap.size ∧ Boxed W w.heap.size 98 (.int .u64 (orL s pre : Int)) ∧ Boxed W (w.heap.size + 1) 3 (.int .i64 n) ∧ pre.length ≤ n.toNat ∧ ∃ v, Boxed W Bo 43 v ∧ W.ownsRow N0 3 1 v pre.length (pre.map fun (i : Nat) => Value.int .i64 (i : Int))
theorem Boxed.putObj {A : World} {B : Nat} {t : TypeId} {v : Value} (h : Boxed A B t v) {l : Nat} {o o' : Obj} (hl : A.heap[l]? = some o) (ho : o.isCells = false) : Boxed (A.putObj l o') B t v := by
  have hne : B ≠ l := fun e => by
    rw [e] at h
    rw [show A.heap[l]? = _ from h] at hl
    cases hl; cases ho
  exact (World.putObj_heap_other hne).trans h
theorem ownsRow_base {W : World} {b b' : Nat} {e : TypeId} {size : Nat} {v : Value} {k : Nat} {xs : List Value} (h : W.ownsRow b e size v k xs) (hb : b' ≤ b) : W.ownsRow b' e size v k xs := by
  refine ⟨h.1, ?_⟩
  rcases h.2 with h | ⟨g, cap, cur, h1, h2, h3⟩
  · exact .inl h
  · exact .inr ⟨g, cap, cur, h1, by omega, h3⟩
theorem ownsRow_form {W : World} {b : Nat} {e : TypeId} {size : Nat} {v : Value} {k : Nat} {xs : List Value} (h : W.ownsRow b e size v k xs) : ∃ ad cap, v = .slice ad k cap := by
  rcases h.2 with ⟨rfl, rfl⟩ | ⟨g, cap, cur, rfl, _⟩
  · exact ⟨_, _, rfl⟩
  · exact ⟨_, _, rfl⟩
theorem keeps_blw {A B : World} (h : Blw A.heap.size A B) : KeepsOthers A B := ⟨h.size, fun j _ ho _ => (h.block j (Array.getElem?_eq_some_iff.1 ho).1).trans ho⟩
theorem takeI_cl (w : World) (s : Nat) (n : Int) (N0 Bo n0 : Nat) (hn : w.heap.size ≤ n0) : Cl n0 (takeI w s n N0 Bo) := by
  constructor
  · rintro pre A o ho ⟨h1, h2, h3, h4, h5, v, h6, h7⟩
    refine ⟨(.of (h1.toBelow.alloc h1.size o)), by simp; omega, h3.alloc _, h4.alloc _, h5, v, h6.alloc _, h7.alloc _⟩
  · rintro pre A l o o' hl ⟨h1, h2, h3, h4, h5, v, h6, h7⟩ hlo ho ho'
    refine ⟨(.of (⟨h1.os, h1.tape, h1.output, Nat.le_trans h1.size (grownBy_putObj' A l o').size, fun k hk => (World.putObj_heap_other (by omega)).trans (h1.block k hk)⟩)), Nat.le_trans h2 (grownBy_putObj' A l o').size, Boxed.putObj h3 hlo ho, Boxed.putObj h4 hlo ho, h5, v, Boxed.putObj h6 hlo ho, ownsRow_putObj h7 _ hlo ho⟩
set_option maxRecDepth 100000 in
set_option maxHeartbeats 4000000 in
theorem take_in (hcn : ConOK Tryz.prog 111 c_seats_Count) (hbt : ConOK Tryz.prog 143 c_seats_bit) (s : Nat) (hs : s < 18446744073709551616) (n : Int) (hn : -9223372036854775808 ≤ n ∧ n ≤ 9223372036854775807) (w : World) (hg : GOK Tryz.prog w) :
    CallsIn Fence.wide 10 Tryz.prog 116 #[.int .u64 (s : Int), .int .i64 n] w fun e W' => ∃ z, e = .returned z ∧ Blw w.heap.size w W' ∧
      (n < 0 → z = .tuple #[.slice none 0 0, .int .u64 0, .int .i64 1]) ∧ (0 ≤ n → 64 - cntW (s : Int) < n → z = .tuple #[.slice none 0 0, .int .u64 0, .int .i64 18]) ∧
      (0 ≤ n → n ≤ 64 - cntW (s : Int) → takeRes W' w.heap.size z ((freeL (s : Int)).take n.toNat) (orL s ((freeL (s : Int)).take n.toNat))) := by
  refine callsIn_of_wp_marks Tryz.func116 rfl trivial ?_ rfl
  simp only [Tryz.ntmps116, List.size_toArray, List.length_cons, List.length_nil, Nat.reduceAdd, Nat.reduceSub, Array.replicate_succ, Array.replicate_zero, List.push_toArray, List.append_toArray, List.nil_append, List.cons_append]
  have hmx : Tryz.prog.follows .mixedOrders = true := by kernel_rfl
  gi_wp2
  · exact ⟨_, res116 _ _, _, rfl, (.of (((Below.refl _ w).alloc (Nat.le_refl _) _).alloc (by simp) _)), fun _ => rfl, fun h => absurd h (by omega), fun h => absurd h (by omega)⟩
  · have bS : Boxed ((w.alloc (.cells #[.int .u64 (s : Int)] 98)).alloc (.cells #[.int .i64 n] 3)) w.heap.size 98 (.int .u64 (s : Int)) := (Boxed.new w 98 _).alloc _
    have bN : Boxed ((w.alloc (.cells #[.int .u64 (s : Int)] 98)).alloc (.cells #[.int .i64 n] 3)) (w.heap.size + 1) 3 (.int .i64 n) := by
      have := Boxed.new (w.alloc (.cells #[.int .u64 (s : Int)] 98)) 3 (.int .i64 n)
      rwa [World.size_alloc] at this
    have b0 : Blw w.heap.size w ((w.alloc (.cells #[.int .u64 (s : Int)] 98)).alloc (.cells #[.int .i64 n] 3)) := (.of (((Below.refl _ w).alloc (Nat.le_refl _) _).alloc (by simp) _))
    generalize hW2 : (w.alloc (.cells #[.int .u64 (s : Int)] 98)).alloc (.cells #[.int .i64 n] 3) = W2 at *
    have hlt2 : w.heap.size + 2 ≤ W2.heap.size := by rw [← hW2]; simp
    have c1 := bS.cell
    have c2 := bN.cell
    have hg2 : GOK Tryz.prog W2 := hg.blw b0 (Nat.le_refl _)
    have hcw := cntW_le (s : Int)
    have hwr : IntKind.i64.wrap (64 - cntW (s : Int)) = 64 - cntW (s : Int) := i64_in _ (by omega)
    refine region_key { tmps := #[.int .u64 (s : Int), .int .i64 n, .pointer (some ⟨w.heap.size, 0, none⟩), .pointer (some ⟨w.heap.size + 1, 0, none⟩), .slice none 0 0, .int .u64 0, .int .i64 0, undef, undef, .bool (decide (n < 0)), .int .i64 n, .bool (decide (n < 0)), .bool (decide ((64 - cntW (s : Int)) < n)), .int .i64 n, .int .u64 (s : Int), .int .i64 (cntW (s : Int)), .int .i64 ((64 - cntW (s : Int))), .bool (decide ((64 - cntW (s : Int)) < n)), undef, undef, undef, undef, undef, undef, undef, undef, undef, undef, undef, undef, undef, undef, undef, undef, undef, undef], defers := [] }
      (fun w' => Blw w.heap.size w w' ∧ Boxed w' w.heap.size 98 (.int .u64 (s : Int)) ∧ Boxed w' (w.heap.size + 1) 3 (.int .i64 n)) ?_ ?_
    rotate_left
    · gi_region_with_o (refine ⟨trivial, ?_⟩; gi_at_call 111; refine (count_calls hcn s hs W2.drew hg2).mono ?_; rintro e w' ⟨rfl, hb⟩; have bS3 : Boxed w' w.heap.size 98 (.int .u64 (s : Int)) := (hb.block _ (show w.heap.size < W2.heap.size by omega)).trans bS; have bN3 : Boxed w' (w.heap.size + 1) 3 (.int .i64 n) := (hb.block _ (show w.heap.size + 1 < W2.heap.size by omega)).trans bN; have b3 : Blw w.heap.size w w' := (b0.trans (.of (Below.refl _ W2).drew)).trans (hb.mono (show w.heap.size ≤ W2.heap.size by omega)); have c3 := bS3.cell; have c4 := bN3.cell)
      all_goals exact ⟨rfl, b3, bS3, bN3⟩
    rintro w' ⟨b3, bS3, bN3⟩
    have c3 := bS3.cell
    have c4 := bN3.cell
    have bS4 := bS3.alloc (.cells #[.slice none 0 0] 43)
    have c5 := bS4.cell
    gi_wp2_with (refine ⟨trivial, ?_⟩; gi_at_call 142; refine (each_in Fence.wide 9 trivial rfl _ _).mono ?_; rintro e w2 ⟨rfl, rfl⟩)
    · exact ⟨_, res116 _ _, _, rfl, b3, fun h => absurd h (by omega), fun _ _ => rfl, fun _ h => absurd h (by omega)⟩
    · rw [compl_bits hs]
      have hle : w.heap.size + 2 ≤ w'.heap.size := by have := bN3.lt; omega
      have bS5 := bS4.alloc (.cells #[.int .u64 ((18446744073709551615 - s : Nat) : Int)] 98)
      have bN5 := (bN3.alloc (.cells #[.slice none 0 0] 43)).alloc (.cells #[.int .u64 ((18446744073709551615 - s : Nat) : Int)] 98)
      have bO5 := (Boxed.new w' 43 (.slice none 0 0)).alloc (.cells #[.int .u64 ((18446744073709551615 - s : Nat) : Int)] 98)
      have bE5 := Boxed.new (w'.alloc (.cells #[.slice none 0 0] 43)) 98 (.int .u64 ((18446744073709551615 - s : Nat) : Int))
      rw [World.size_alloc] at bE5
      have hB5 : Blw w.heap.size w ((w'.alloc (.cells #[.slice none 0 0] 43)).alloc (.cells #[.int .u64 ((18446744073709551615 - s : Nat) : Int)] 98)) := (.of ((b3.toBelow.alloc b3.size _).alloc (by simp; exact Nat.le_succ_of_le b3.size) _))
      have hsz : ((w'.alloc (.cells #[.slice none 0 0] 43)).alloc (.cells #[.int .u64 ((18446744073709551615 - s : Nat) : Int)] 98)).heap.size = w'.heap.size + 2 := by simp
      generalize (w'.alloc (.cells #[.slice none 0 0] 43)).alloc (.cells #[.int .u64 ((18446744073709551615 - s : Nat) : Int)] 98) = W0 at *
      obtain ⟨i0, hi, hz0, hz1, hz2⟩ := info_parts (show (Tryz.prog.info? 3).map (fun i => (i.zero, i.size, i.bytes)) = some (some (.int .i64 0), 1, 8) by kernel_rfl)
      refine rangeFunc_box (n := 10) rfl (by omega) (gf := 149) (lb := #[.pointer (some ⟨w'.heap.size + 1, 0, none⟩)]) rfl trivial (enters_of Tryz.func149 (by kernel_rfl) rfl) (encs := fun x : Nat => #[Value.int .i64 (x : Int)]) (Be := w'.heap.size + 1) (tB := 98) (xB := .int .u64 ((18446744073709551615 - s : Nat) : Int)) (G := GOK Tryz.prog) (xs := bitsL (18446744073709551615 - s)) (fun _ => rfl)
        (fun l J Jx W hJ hG hY hB h0 => each1_in Fence.wide 9 trivial trivial rfl (by omega) l (w'.heap.size + 1) _ (by omega) J Jx hJ hG hY W hB h0)
        bE5 (takeI w s n W0.heap.size w'.heap.size) (fun c pre W => c = .exit 1 ∧ ∃ (pre0 : List Nat) (x : Nat), pre = pre0 ++ [x] ∧ pre0.length = n.toNat ∧ takeI w s n W0.heap.size w'.heap.size pre0 W)
        (takeI_cl w s n _ _ _ (by omega)) (fun c => ⟨fun pre A o ho ⟨h1, pre0, x, h2, h3, h4⟩ => ⟨h1, pre0, x, h2, h3, (takeI_cl w s n _ _ W0.heap.size (by omega)).alloc _ _ _ ho h4⟩, fun pre A l o o' hl ⟨h1, pre0, x, h2, h3, h4⟩ hlo ho ho' => ⟨h1, pre0, x, h2, h3, (takeI_cl w s n _ _ W0.heap.size (by omega)).putObj _ _ _ _ _ hl h4 hlo ho ho'⟩⟩)
        ?set (fun pre A h => hg.blw h.1 (Nat.le_refl _)) ⟨hB5, Nat.le_refl _, bS5, bN5, by simp, _, bO5, World.ownsRow_nil _ _ _ _⟩
        (fun x => { tmps := #[.int .u64 (s : Int), .int .i64 n, .pointer (some ⟨w.heap.size, 0, none⟩), .pointer (some ⟨w.heap.size + 1, 0, none⟩), .slice none 0 0, .int .u64 0, .int .i64 0, .pointer (some ⟨w'.heap.size, 0, none⟩), .int .i64 (x : Int), .bool (decide (n < 0)), .int .i64 n, .bool (decide (n < 0)), .bool (decide ((64 - cntW (s : Int)) < n)), .int .i64 n, .int .u64 (s : Int), .int .i64 (cntW (s : Int)), .int .i64 (64 - cntW (s : Int)), .bool (decide ((64 - cntW (s : Int)) < n)), .int .u64 (s : Int), .int .u64 ((18446744073709551615 - s : Nat) : Int), .func (.func 149) #[] #[.pointer (some ⟨w'.heap.size + 1, 0, none⟩)], .int .i64 (x : Int), undef, undef, undef, undef, undef, undef, undef, undef, undef, undef, undef, undef, undef, undef], defers := [] })
        ?assign ?body ?done ?stop
      case set =>
        rintro pre A x v ⟨h1, h2, h3, h4, h5, v', h6, h7⟩ hb
        have oth : ∀ {B : Nat} {t : TypeId} {u : Value}, B ≠ w'.heap.size + 1 → Boxed A B t u → Boxed (A.setCell ⟨w'.heap.size + 1, 0, none⟩ v) B t u := fun hne h => (Below.heap_setCell _ _ _ _ hne).trans h
        refine ⟨(.of (h1.toBelow.setCell (p := ⟨w'.heap.size + 1, 0, none⟩) (show w.heap.size ≤ w'.heap.size + 1 by omega) _)), Nat.le_trans h2 (grownBy_setCell' A _ v).size, oth (by omega) h3, oth (by omega) h4, h5, v', oth (by omega) h6, h7.kept (grownBy_setCell' A _ v) ?_⟩
        rcases h7.2 with ⟨rfl, _⟩ | ⟨g, cap, cur, rfl, hbg, _⟩
        · exact .inl rfl
        · exact .inr (by simp [Value.ownBlock]; omega)
      case assign =>
        intro l x W K hK
        gi_wp2
        exact hK
      case body =>
        rintro l pre x W ⟨h1, h2, h3, h4, h5, v, h6, h7⟩ hpre
        have hx64 : x < 64 := bitsL_lt (hpre.subset (List.mem_append.2 (.inr (by simp))))
        have hp64 : ∀ i ∈ pre, i < 64 := fun i hi => bitsL_lt (hpre.subset (List.mem_append.2 (.inl hi)))
        have hol := orL_lt hs pre hp64
        have hxp : (2 : Nat) ^ x < 18446744073709551616 := Nat.pow_lt_pow_right (by omega) hx64
        have hplen : pre.length ≤ 64 := by
          have := hpre.length_le
          have h2 : (bitsL (18446744073709551615 - s)).length ≤ 64 := by unfold bitsL; have := List.length_filter_le (fun i => (18446744073709551615 - s).testBit i) (List.range 64); simpa using this
          simp at this; omega
        have hml : (65 : Nat) ≤ maxLen := by decide
        obtain ⟨ad, cap, rfl⟩ := ownsRow_form h7
        have k3 := h3.cell
        have k4 := h4.cell
        have k6 := h6.cell
        have k3f := h3.frozen
        have k6f := h6.frozen
        gi_wp2_with (gi_at_builtin; refine wpListIn_append_fz _ rfl _ _ 43 rfl W0.heap.size 3 i0 (.int .i64 0) 1 8 Tryz.underlying43 hi hz0 hz1 hz2 rfl (by decide) _ _ _ rfl (h7.alloc _) ⟨W.heap.size, 0, none⟩ 1 1 [.int .i64 (x : Int)] rfl rfl (cell_one_new _ _ _) (by simp [Value.oneCell']) (by omega) (by omega) (by omega) (by simp; omega) ?_; intro v' w1 hown' hgrow _ hfz; obtain ⟨g', cap', rfl⟩ := ownsRow_succ hown'; obtain ⟨hv1, hv2, hr2, hk2, hb2⟩ := h6.appended (by decide) (ownsRow_base h7 (show w'.heap.size ≤ W0.heap.size by omega)) (by omega) (Nat.le_refl _) (ownsRow_base hown' (show w'.heap.size ≤ W0.heap.size by omega)) hgrow; have hB3 : Blw w'.heap.size W (w1.setCell ⟨w'.heap.size, 0, none⟩ (.slice (some ⟨g', 0, none⟩) (pre.length + 1) cap')) := (.of (hb2)); clear hfz; have hc1 := hv1.cell; have hf1 := hv1.frozen)
        · refine ⟨KeepsOthers.refl _, rfl, pre, x, rfl, ?_, h1, h2, h3, h4, h5, _, h6, h7⟩
          have : ((pre.length : Int) == n) = true := by assumption
          have := eq_of_beq this
          omega
        · have hBe : (w1.setCell ⟨w'.heap.size, 0, none⟩ (.slice (some ⟨g', 0, none⟩) (pre.length + 1) cap')).heap[w'.heap.size + 1]? = W.heap[w'.heap.size + 1]? := by
            have hgr : World.grownBy _ w1 (Value.slice ad pre.length cap).ownBlock := hgrow
            refine (Below.heap_setCell _ _ _ _ (by simp)).trans ((hgr.block _ (by simp; omega) ?_).trans (Below.heap_alloc _ _ _ (by omega)))
            rcases h7.2 with ⟨e, _⟩ | ⟨g, cap2, cur, e, hbg, _⟩
            · rw [e]; simp [Value.ownBlock]
            · rw [e]; simp [Value.ownBlock]; omega
          have hne : pre.length ≠ n.toNat := fun e => by
            have : ((pre.length : Int) == n) = false := by assumption
            rw [beq_eq_false_iff_ne] at this
            omega
          have hr3 := hown'.kept (grownBy_setCell' w1 w'.heap.size (.slice (some ⟨g', 0, none⟩) (pre.length + 1) cap')) (.inr (hv1.not_row (by decide) hown').symm)
          have s3 := (hB3.block _ (show w.heap.size < w'.heap.size by omega)).trans h3
          have n3 := (hB3.block _ (show w.heap.size + 1 < w'.heap.size by omega)).trans h4
          have B3 : Blw w.heap.size w (w1.setCell ⟨w'.heap.size, 0, none⟩ (.slice (some ⟨g', 0, none⟩) (pre.length + 1) cap')) := h1.trans (hB3.mono (by omega))
          have sz3 : W0.heap.size ≤ (w1.setCell ⟨w'.heap.size, 0, none⟩ (.slice (some ⟨g', 0, none⟩) (pre.length + 1) cap')).heap.size := Nat.le_trans h2 hB3.size
          generalize w1.setCell ⟨w'.heap.size, 0, none⟩ (.slice (some ⟨g', 0, none⟩) (pre.length + 1) cap') = W3 at *
          have s3b : Boxed W3 w.heap.size 98 (.int .u64 (orL s pre : Int)) := s3
          have n3b : Boxed W3 (w.heap.size + 1) 3 (.int .i64 n) := n3
          have q1 := s3b.cell
          have q2 := s3b.frozen
          have B3d : Blw w.heap.size w W3.drew := B3.trans (.of (Below.refl _ W3).drew)
          have hg3 : GOK Tryz.prog W3.drew := hg.blw B3d (Nat.le_refl _)
          have fin : ∀ w4, Blw W3.heap.size W3.drew w4 → KeepsOthers W (w4.setCell ⟨w.heap.size, 0, none⟩ (.int .u64 (Go.bits BinOp.or IntKind.u64 (orL s pre : Int) (2 ^ x)))) ∧ (w4.setCell ⟨w.heap.size, 0, none⟩ (.int .u64 (Go.bits BinOp.or IntKind.u64 (orL s pre : Int) (2 ^ x)))).heap[w'.heap.size + 1]? = W.heap[w'.heap.size + 1]? ∧
              takeI w s n W0.heap.size w'.heap.size (pre ++ [x]) (w4.setCell ⟨w.heap.size, 0, none⟩ (.int .u64 (Go.bits BinOp.or IntKind.u64 (orL s pre : Int) (2 ^ x)))) := fun w4 hb4 => by
            have e2 : ((2 : Int) ^ x) = ((2 ^ x : Nat) : Int) := by simp
            rw [e2, or_walk hol hxp, ← orL_snoc]
            have s4 : Boxed w4 w.heap.size 98 (.int .u64 (orL s pre : Int)) := (hb4.block _ (show w.heap.size < W3.heap.size by omega)).trans s3b
            have n4 : Boxed w4 (w.heap.size + 1) 3 (.int .i64 n) := (hb4.block _ (show w.heap.size + 1 < W3.heap.size by omega)).trans n3b
            have o4 : Boxed w4 w'.heap.size 43 (.slice (some ⟨g', 0, none⟩) (pre.length + 1) cap') := (hb4.block _ (show w'.heap.size < W3.heap.size by omega)).trans hv2
            have hgl : g' < W3.heap.size := by
              rcases hr3.2 with ⟨e, _⟩ | ⟨g, cap2, cur, e, _, hgb, _⟩
              · cases e
              · cases e; exact (Array.getElem?_eq_some_iff.1 hgb).1
            have r4 : w4.ownsRow W0.heap.size 3 1 (.slice (some ⟨g', 0, none⟩) (pre.length + 1) cap') (pre.length + 1) ((pre.map fun (i : Nat) => Value.int .i64 (i : Int)) ++ [Value.int .i64 (x : Int)]) := by
              refine ⟨hr3.1, ?_⟩
              rcases hr3.2 with ⟨e, _⟩ | ⟨g, cap2, cur, e, k1, hgb, k2⟩
              · cases e
              · cases e
                exact .inr ⟨g', cap', cur, rfl, k1, (hb4.block _ hgl).trans hgb, k2⟩
            refine ⟨(hk2.trans (KeepsOthers.drew W3)).trans ((keeps_blw (A := W3.drew) hb4).trans (KeepsOthers.setCell _ _ _)), (Below.heap_setCell _ _ _ _ (by simp; omega)).trans ((hb4.block _ (show w'.heap.size + 1 < W3.heap.size by omega)).trans hBe), ?_⟩
            have b4 : Blw w.heap.size w w4 := B3d.trans (hb4.mono (by omega))
            refine ⟨(.of (b4.toBelow.setCell (p := ⟨w.heap.size, 0, none⟩) (Nat.le_refl _) _)), Nat.le_trans (Nat.le_trans sz3 hb4.size) (grownBy_setCell' w4 _ _).size, s4.set _, (Below.heap_setCell _ _ _ _ (by simp)).trans n4, by simp; omega, _, (Below.heap_setCell _ _ _ _ (by simp; omega)).trans o4, ?_⟩
            have := r4.kept (grownBy_setCell' w4 w.heap.size (.int .u64 (orL s (pre ++ [x]) : Int))) (.inr (s4.not_row (by decide) r4).symm)
            simpa using this
          gi_region_with_o (refine ⟨trivial, ?_⟩; gi_at_call 143; refine (CallsIn.inRound l (bit_calls hbt x hx64 W3.drew hg3)).mono ?_; rintro e w4 ⟨rfl, hb4⟩; have s4 : Boxed w4 w.heap.size 98 (.int .u64 (orL s pre : Int)) := (hb4.block _ (show w.heap.size < W3.heap.size by omega)).trans s3b; have q3 := s4.cell; have q4 := s4.frozen)
          all_goals (gi_wp2; exact fin w4 hb4)
      case done =>
        rintro D W hT hK hD
        rw [bitsL_compl hs] at hT
        have hnn : 0 ≤ n := by omega
        have hlen := freeL_len s
        have h5' := hT.2.2.2.2.1
        have hall : (freeL (s : Int)).take n.toNat = freeL (s : Int) := List.take_of_length_le (by omega)
        obtain ⟨h1, h2, h3, h4, h5, v, h6, h7⟩ := hT
        obtain ⟨ad, cap, rfl⟩ := ownsRow_form h7
        have k3 := h3.cell
        have k6 := h6.cell
        gi_wp2
        refine region_calm ?_
        gi_region_with_o (fail)
        all_goals gi_wp2
        all_goals refine ⟨by simp, .inl ⟨_, _, rfl, run_takeDeferred (show W.drew.heap[D]? = _ from hK), ?_⟩⟩
        all_goals refine ⟨_, res116 _ _, _, rfl, (.of (⟨h1.os, h1.tape, h1.output, Nat.le_trans h1.size (grownBy_putObj' W.drew D (.deferred none)).size, fun k hk => (World.putObj_heap_other (by omega)).trans (h1.block k hk)⟩)), fun h => absurd h (by omega), fun _ h => absurd h (by omega), fun _ _ => ?_⟩
        all_goals rw [hall]
        all_goals exact ⟨_, rfl, ownsRow_putObj (ownsRow_base h7 (by omega)) _ hK rfl⟩
      case stop =>
        rintro D c pre W hpre ⟨rfl, pre0, x, rfl, hl, hT⟩ hK hD
        rw [bitsL_compl hs] at hpre
        have hnn : 0 ≤ n := by omega
        have hall : (freeL (s : Int)).take n.toNat = pre0 := by
          obtain ⟨r, hr⟩ := hpre
          rw [← hr, ← hl]; simp
        clear hl
        obtain ⟨h1, h2, h3, h4, h5, v, h6, h7⟩ := hT
        obtain ⟨ad, cap, rfl⟩ := ownsRow_form h7
        have k3 := h3.cell
        have k6 := h6.cell
        gi_wp2
        refine region_calm ?_
        gi_region_with_o (fail)
        all_goals gi_wp2
        all_goals refine ⟨by simp, .inl ⟨_, _, rfl, run_takeDeferred (show W.drew.heap[D]? = _ from hK), ?_⟩⟩
        all_goals refine ⟨_, res116 _ _, _, rfl, (.of (⟨h1.os, h1.tape, h1.output, Nat.le_trans h1.size (grownBy_putObj' W.drew D (.deferred none)).size, fun k hk => (World.putObj_heap_other (by omega)).trans (h1.block k hk)⟩)), fun h => absurd h (by omega), fun _ h => absurd h (by omega), fun _ _ => ?_⟩
        all_goals rw [hall]
        all_goals exact ⟨_, rfl, ownsRow_putObj (ownsRow_base h7 (by omega)) _ hK rfl⟩
theorem res_take {W : World} {im : Nat → Prop} {v : Value} {l : List Int} {s e : Int} {cs : List Value} (h1 : v = pk false cs) (h2 : Rd W im (.list .i) l cs) (hs : inKind .u64 s = true) (he : inKind .i64 e = true) :
    RV ⟨fun _ => none, W, im⟩ (resAV [.list .i, .int .u64, .i] (l, s, e, ())) (.tuple #[v, .int .u64 s, .int .i64 e]) := by
  refine ⟨[v, .int .u64 s, .int .i64 e], rfl, cs, _, ?_, h2, [.int .u64 s], _, rfl, Rd.int.2 ⟨rfl, hs⟩, [.int .i64 e], _, rfl, Rd.int.2 ⟨rfl, he⟩, rfl⟩
  rw [h1]; rfl
theorem row_ints {W : World} {base : Nat} {v : Value} {l : List Nat} (h : W.ownsRow base 3 1 v l.length (l.map fun (i : Nat) => Value.int .i64 (i : Int))) (hl : ∀ i ∈ l, i < 64) (hn : l.length ≤ 64) (im : Nat → Prop) (him : ∀ k, base ≤ k → k < W.heap.size → im k) :
    ∃ cs, v = pk false cs ∧ Rd W im (.list .i) (l.map fun (i : Nat) => (i : Int)) cs := by
  have hb : List.length (l.map fun (i : Nat) => (i : Int)) * Ty.bytes .i ≤ top := by
    rw [List.length_map]
    have : (64 : Nat) * Ty.bytes .i ≤ top := by decide
    exact Nat.le_trans (Nat.mul_le_mul_right _ hn) this
  rcases h.2 with ⟨rfl, h0⟩ | ⟨g, cap, cur, rfl, hbg, hg, hc, hcm, hsz, htk⟩
  · refine ⟨[.slice none 0 0], rfl, Rd.list.2 ⟨hb, .inl ⟨rfl, ?_⟩⟩⟩
    rw [List.length_eq_zero_iff.1 h0]; rfl
  · refine ⟨[.slice (some ⟨g, 0, none⟩) l.length cap], rfl, Rd.list.2 ⟨hb, .inr ⟨⟨g, 0, none⟩, cap, l.map fun (i : Nat) => [Value.int .i64 (i : Int)], by rw [List.length_map], fun _ => rfl, by rw [List.length_map]; exact hc, hcm, ?_, fun _ => him g hbg (Array.getElem?_eq_some_iff.1 hg).1, ?_⟩⟩⟩
    · clear h hn hb hc htk hsz
      induction l with
      | nil => trivial
      | cons i l ih =>
        refine ⟨Rd.int.2 ⟨rfl, ?_⟩, ih fun j hj => hl j (List.mem_cons_of_mem _ hj)⟩
        have := hl i (List.mem_cons_self ..)
        rw [inKind_iff]; show -9223372036854775808 ≤ (i : Int) ∧ (i : Int) ≤ 9223372036854775807; omega
    · intro j x hj
      have hfl : (l.map fun (i : Nat) => [Value.int .i64 (i : Int)]).flatten = l.map fun (i : Nat) => Value.int .i64 (i : Int) := by
        clear h hl hn hb hc htk hsz hj
        induction l with
        | nil => rfl
        | cons i l ih => simp [ih]
      rw [hfl, ← htk] at hj
      have hj2 : cur.toList[j]? = some x := by
        rw [List.getElem?_take] at hj
        split at hj
        · exact hj
        · cases hj
      have : cur[j]? = some x := by rw [← Array.getElem?_toList]; exact hj2
      simp [World.cell?, hg, this]
theorem ok_seats_Take_of (hcn : ConOK Tryz.prog 111 c_seats_Count) (hbt : ConOK Tryz.prog 143 c_seats_bit) : ConOK Tryz.prog 116 c_seats_Take := by
  refine ⟨FnOK.of Tryz.func116 rfl (by kernel_rfl), ?_, ?_⟩
  · decide
  · intro w I x xs y hg hI hx hxy
    obtain ⟨s, n, u⟩ := x
    change Int at s; change Int at n
    match xs, hx with
    | [a, b], hx =>
      obtain ⟨⟨c1, rfl, r1⟩, ⟨c2, rfl, r2⟩, _⟩ := hx
      obtain ⟨rfl, k1⟩ := Rd.int.1 r1
      obtain ⟨rfl, k2⟩ := Rd.int.1 r2
      rw [inKind_iff] at k1 k2
      have k1 : 0 ≤ s ∧ s ≤ 18446744073709551615 := k1
      have k2 : -9223372036854775808 ≤ n ∧ n ≤ 9223372036854775807 := k2
      obtain ⟨s, rfl⟩ : ∃ m : Nat, s = (m : Int) := ⟨s.toNat, by omega⟩
      have hs : s < 18446744073709551616 := by omega
      refine Calls.mono (callsIn_wide.1 (take_in hcn hbt s hs n k2 w hg)) ?_
      rintro e W ⟨z, rfl, hb, h1, h2, h3⟩
      refine ⟨z, rfl, hb, ?_⟩
      have hy : takeW (s : Int) n = (y.1, y.2.1, y.2.2.1) := by
        have : some ((takeW (s : Int) n).1, (takeW (s : Int) n).2.1, (takeW (s : Int) n).2.2, ()) = some y := hxy
        obtain rfl := Option.some.inj this
        rfl
      obtain ⟨yl, ys, ye, yu⟩ := y
      change takeW (s : Int) n = (yl, ys, ye) at hy
      unfold takeW at hy
      have hnil : ∀ im, Rd W im (.list .i) [] [.slice none 0 0] := fun im => Rd.list.2 ⟨by simp, .inl ⟨rfl, rfl⟩⟩
      by_cases hn : n < 0
      · rw [if_pos hn] at hy
        cases hy
        rw [h1 hn]
        exact res_take rfl (hnil _) (by decide) (by decide)
      · rw [if_neg hn] at hy
        by_cases hc : 64 - cntW (s : Int) < n
        · rw [if_pos hc] at hy
          cases hy
          rw [h2 (by omega) hc]
          exact res_take rfl (hnil _) (by decide) (by decide)
        · rw [if_neg hc] at hy
          cases hy
          obtain ⟨v, rfl, hr⟩ := h3 (by omega) (by omega)
          have hl64 : ∀ i ∈ (freeL (s : Int)).take n.toNat, i < 64 := fun i hi => by
            have := List.mem_of_mem_take hi
            unfold freeL at this
            simp only [List.mem_filter, List.mem_range] at this
            exact this.1
          have hlen : ((freeL (s : Int)).take n.toNat).length ≤ 64 := by
            have h1 := freeL_len s
            have h2 := List.length_take_le n.toNat (freeL (s : Int))
            have h3 := (cntW_le (s : Int)).1
            have h4 : ((freeL (s : Int)).take n.toNat).length ≤ (freeL (s : Int)).length := by rw [List.length_take]; omega
            omega
          obtain ⟨cs, e1, e2⟩ := row_ints hr hl64 hlen (fun k => k < W.heap.size ∧ (k < w.heap.size → I k)) (fun k a b => ⟨b, fun h => absurd h (by omega)⟩)
          have := orL_lt hs _ hl64
          refine res_take e1 e2 ?_ (by decide)
          rw [inKind_iff]; show 0 ≤ ((orL s _ : Nat) : Int) ∧ ((orL s _ : Nat) : Int) ≤ 18446744073709551615
          omega
end Go.Proofs.YtghlolinkmlkeaaGreatDoor
end

section
namespace Go.Proofs.YtghlolinkmlkeaaGreatDoor
open Go Go.Co Go.Co.N Go.Proofs
theorem ok_seats_Take : ConOK Tryz.prog 116 c_seats_Take := ok_seats_Take_of ok_seats_Count ok_seats_bit
noncomputable def L_roster_Move : List (Nat × LD) := [(11, ⟨⟨[(2, .hole .i), (3, .hole .i), (4, .ptr 0 []), (5, .ptr 1 []), (8, .ptr 2 []), (13, .row (.st .seat)), (14, .nils), (49, .hole (.list .i)), (50, .hole .i), (51, .hole .i)], [(0, (.arr 64 (.st .entry)), .hole (.arr 64 (.st .entry))), (1, (.st .batch), .hole (.st .batch)), (2, (.arr 64 (.st .entry)), .hole (.arr 64 (.st .entry)))], []⟩, [(.exit 1, ⟨[(2, .hole .i), (3, .hole .i), (4, .ptr 0 []), (5, .ptr 1 []), (8, .ptr 2 []), (13, .row (.st .seat)), (14, .nils)], [(0, (.arr 64 (.st .entry)), .hole (.arr 64 (.st .entry))), (1, (.st .batch), .hole (.st .batch)), (2, (.arr 64 (.st .entry)), .hole (.arr 64 (.st .entry)))], []⟩)], 13, []⟩), (19, ⟨⟨[(2, .hole .i), (3, .hole .i), (4, .ptr 0 []), (5, .ptr 1 []), (8, .ptr 2 []), (13, .row (.st .seat)), (14, .row (.st .seat)), (78, .hole (.list .i)), (79, .hole .i), (80, .hole .i)], [(0, (.arr 64 (.st .entry)), .hole (.arr 64 (.st .entry))), (1, (.st .batch), .hole (.st .batch)), (2, (.arr 64 (.st .entry)), .hole (.arr 64 (.st .entry)))], []⟩, [(.exit 3, ⟨[(4, .ptr 0 []), (8, .ptr 2 []), (13, .row (.st .seat)), (14, .row (.st .seat))], [(0, (.arr 64 (.st .entry)), .hole (.arr 64 (.st .entry))), (2, (.arr 64 (.st .entry)), .hole (.arr 64 (.st .entry)))], []⟩)], 14, []⟩)]
noncomputable def Ls_roster_Move : List (Nat × List (Nat × LD)) := []
noncomputable def B_roster_Move : Bodies := []
theorem run_roster_Move (x : denL [(.arr 64 (.st .entry)), (.st .batch), .i, .i]) : run [(73, c_roster_Fits), (115, c_roster_names), (36, c_roster_Find), (82, c_roster_Taken), (116, c_seats_Take)] L_roster_Move Ls_roster_Move B_roster_Move Tryz.f78 [(.arr 64 (.st .entry)), (.st .batch), .i, .i] [(.arr 64 (.st .entry)), (.list (.st .seat)), (.list (.st .seat)), .i] x = g_roster_Move x := by kernel_rfl
theorem ok_roster_Move : ConOK Tryz.prog 78 c_roster_Move := con_ok (ConsOK.cons ok_roster_Fits (ConsOK.cons ok_roster_names (ConsOK.cons ok_roster_Find (ConsOK.cons ok_roster_Taken (ConsOK.cons ok_seats_Take (ConsOK.nil)))))) L_roster_Move Ls_roster_Move (B := B_roster_Move) (BodiesOK.nil) Tryz.func78 rfl fun x y hf h => (run_roster_Move x).trans (eq_roster_Move x y hf h)
noncomputable def L_plan_step : List (Nat × LD) := []
noncomputable def Ls_plan_step : List (Nat × List (Nat × LD)) := []
noncomputable def B_plan_step : Bodies := []
theorem run_plan_step (x : denL [(.st .tree), (.st .batch)]) : run [(72, c_keytree_Check), (73, c_roster_Fits), (75, c_plan_leavers), (74, c_plan_Replaced), (76, c_bits_OnesCount32), (77, c_ratchet_Turn), (78, c_roster_Move)] L_plan_step Ls_plan_step B_plan_step Tryz.f47 [(.st .tree), (.st .batch)] [(.st .tree), (.st .rekey), .i] x = g_plan_step x := by kernel_rfl
theorem ok_plan_step : ConOK Tryz.prog 47 c_plan_step := con_ok (ConsOK.cons ok_keytree_Check (ConsOK.cons ok_roster_Fits (ConsOK.cons ok_plan_leavers (ConsOK.cons ok_plan_Replaced (ConsOK.cons ok_bits_OnesCount32 (ConsOK.cons ok_ratchet_Turn (ConsOK.cons ok_roster_Move (ConsOK.nil)))))))) L_plan_step Ls_plan_step (B := B_plan_step) (BodiesOK.nil) Tryz.func47 rfl fun x y hf h => (run_plan_step x).trans (eq_plan_step x y hf h)
noncomputable def L_plan_items : List (Nat × LD) := [(8, ⟨⟨[(3, .ptr 1 []), (5, .ptr 2 []), (6, .fn 79 [0, 2]), (7, .hole (.int .u64)), (8, .hole (.int .u32)), (9, .hole .i), (10, .hole .i)], [(0, (.st .tree), .hole (.st .tree)), (1, (.st .rekey), .hole (.st .rekey)), (2, (.list (.st .item)), .row (.st .item))], []⟩, [(.exit 2, ⟨[(3, .ptr 1 []), (5, .ptr 2 []), (6, .fn 79 [0, 2]), (7, .hole (.int .u64)), (8, .hole (.int .u32)), (9, .hole .i)], [(0, (.st .tree), .hole (.st .tree)), (1, (.st .rekey), .hole (.st .rekey)), (2, (.list (.st .item)), .row (.st .item))], []⟩)], 11, []⟩), (5, ⟨⟨[(3, .ptr 1 []), (5, .ptr 2 []), (6, .fn 79 [0, 2]), (7, .hole (.int .u64)), (8, .hole (.int .u32)), (9, .hole .i)], [(0, (.st .tree), .hole (.st .tree)), (1, (.st .rekey), .hole (.st .rekey)), (2, (.list (.st .item)), .row (.st .item))], []⟩, [(.exit 0, ⟨[(3, .ptr 1 []), (5, .ptr 2 []), (6, .fn 79 [0, 2]), (8, .hole (.int .u32))], [(0, (.st .tree), .hole (.st .tree)), (1, (.st .rekey), .hole (.st .rekey)), (2, (.list (.st .item)), .row (.st .item))], []⟩)], 21, []⟩), (18, ⟨⟨[(5, .ptr 2 []), (6, .fn 79 [0, 2]), (8, .hole (.int .u32)), (13, .ptr 25 []), (54, .hole (.list (.st .seat))), (55, .hole .i), (56, .hole .i), (66, .hole (.arr 3 .i)), (67, .hole .i)], [(0, (.st .tree), .hole (.st .tree)), (2, (.list (.st .item)), .row (.st .item)), (25, (.st .seat), .hole (.st .seat))], []⟩, [(.exit 6, ⟨[(5, .ptr 2 []), (6, .fn 79 [0, 2]), (8, .hole (.int .u32)), (54, .hole (.list (.st .seat))), (55, .hole .i), (56, .hole .i)], [(0, (.st .tree), .hole (.st .tree)), (2, (.list (.st .item)), .row (.st .item))], []⟩)], 11, []⟩), (14, ⟨⟨[(5, .ptr 2 []), (6, .fn 79 [0, 2]), (8, .hole (.int .u32)), (54, .hole (.list (.st .seat))), (55, .hole .i), (56, .hole .i)], [(0, (.st .tree), .hole (.st .tree)), (2, (.list (.st .item)), .row (.st .item))], []⟩, [(.exit 4, ⟨[(5, .ptr 2 [])], [(2, (.list (.st .item)), .row (.st .item))], []⟩)], 23, []⟩)]
noncomputable def Ls_plan_items : List (Nat × List (Nat × LD)) := []
noncomputable def B_plan_items : Bodies := [bodyLine 79 Tryz.f79]
theorem run_plan_items (x : denL [(.st .tree), (.st .rekey)]) : run [(81, c_plan_nodeKey), (80, c_key_Seal), (82, c_roster_Taken), (74, c_plan_Replaced), (83, c_shape_Child), (62, c_shape_Mask), (84, c_shape_Path), (41, c_shape_Leaf)] L_plan_items Ls_plan_items B_plan_items Tryz.f48 [(.st .tree), (.st .rekey)] [(.list (.st .item))] x = g_plan_items x := by kernel_rfl
theorem ok_plan_items : ConOK Tryz.prog 48 c_plan_items := con_ok (ConsOK.cons ok_plan_nodeKey (ConsOK.cons ok_key_Seal (ConsOK.cons ok_roster_Taken (ConsOK.cons ok_plan_Replaced (ConsOK.cons ok_shape_Child (ConsOK.cons ok_shape_Mask (ConsOK.cons ok_shape_Path (ConsOK.cons ok_shape_Leaf (ConsOK.nil))))))))) L_plan_items Ls_plan_items (B := B_plan_items) (BodiesOK.cons Tryz.func79 rfl (BodiesOK.nil)) Tryz.func48 rfl fun x y hf h => (run_plan_items x).trans (eq_plan_items x y hf h)
noncomputable def L_plan_Next : List (Nat × LD) := []
noncomputable def Ls_plan_Next : List (Nat × List (Nat × LD)) := []
noncomputable def B_plan_Next : Bodies := []
theorem run_plan_Next (x : denL [(.st .tree), (.st .batch)]) : run [(47, c_plan_step), (48, c_plan_items)] L_plan_Next Ls_plan_Next B_plan_Next Tryz.f27 [(.st .tree), (.st .batch)] [(.st .tree), (.st .rekey), .i] x = g_plan_Next x := by kernel_rfl
theorem ok_plan_Next : ConOK Tryz.prog 27 c_plan_Next := con_ok (ConsOK.cons ok_plan_step (ConsOK.cons ok_plan_items (ConsOK.nil))) L_plan_Next Ls_plan_Next (B := B_plan_Next) (BodiesOK.nil) Tryz.func27 rfl fun x y hf h => (run_plan_Next x).trans (eq_plan_Next x y hf h)
end Go.Proofs.YtghlolinkmlkeaaGreatDoor
end

section
namespace Go.Proofs.YtghlolinkmlkeaaGreatDoor
open Go Go.Co Go.Co.N Go.Proofs
noncomputable def L_history_Play : List (Nat × LD) := [(5, ⟨⟨[(4, .ptr 0 []), (5, .row (.st .tree)), (6, .row .i), (18, .hole (.list (.st .batch))), (19, .hole .i), (20, .hole .i)], [(0, (.st .tree), .hole (.st .tree))], []⟩, [(.exit 0, ⟨[(5, .row (.st .tree)), (6, .row .i)], [(0, (.st .tree), .hole (.st .tree))], []⟩)], 41, [1000000, 0, 1, 2]⟩)]
noncomputable def Ls_history_Play : List (Nat × List (Nat × LD)) := []
noncomputable def B_history_Play : Bodies := []
theorem run_history_Play (x : denL [(.list (.st .batch))]) : run [(26, c_keytree_Start), (27, c_plan_Next)] L_history_Play Ls_history_Play B_history_Play Tryz.f9 [(.list (.st .batch))] [(.list (.st .tree)), (.list .i)] x = g_history_Play x := by kernel_rfl
theorem ok_history_Play : ConOK Tryz.prog 9 c_history_Play := con_ok (ConsOK.cons ok_keytree_Start (ConsOK.cons ok_plan_Next (ConsOK.nil))) L_history_Play Ls_history_Play (B := B_history_Play) (BodiesOK.nil) Tryz.func9 rfl fun x y hf h => (run_history_Play x).trans (eq_history_Play x y hf h)
noncomputable def L_history_came : List (Nat × LD) := [(4, ⟨⟨[(3, .ptr 1 []), (4, .ptr 2 []), (5, .ptr 3 []), (6, .row (.st .entry)), (13, .hole (.arr 64 (.st .entry))), (14, .hole .i)], [(1, (.st .tree), .hole (.st .tree)), (3, (.st .batch), .agv  .batch (.cons (.row .i) (.cons (.nils) (.nil))))], []⟩, [(.exit 0, ⟨[(4, .ptr 2 []), (5, .ptr 3 []), (6, .row (.st .entry))], [(1, (.st .tree), .hole (.st .tree)), (3, (.st .batch), .agv  .batch (.cons (.row .i) (.cons (.nils) (.nil))))], []⟩)], 40, [1000000, 1, 3]⟩), (15, ⟨⟨[(4, .ptr 2 []), (5, .ptr 3 []), (45, .slf 4), (46, .hole .i), (47, .hole .i)], [(3, (.st .batch), .agv  .batch (.cons (.slf 5) (.cons (.row .i) (.nil))))], [(4, .unit, (.st .entry))]⟩, [(.exit 2, ⟨[(4, .ptr 2 []), (5, .ptr 3 [])], [(3, (.st .batch), .agv  .batch (.cons (.slf 5) (.cons (.row .i) (.nil))))], [(4, .unit, (.st .entry))]⟩)], 35, [1000000, 3, 4]⟩)]
noncomputable def Ls_history_came : List (Nat × List (Nat × LD)) := []
noncomputable def B_history_came : Bodies := []
theorem run_history_came (x : denL [(.st .tree), (.st .tree)]) : run [] L_history_came Ls_history_came B_history_came Tryz.f29 [(.st .tree), (.st .tree)] [(.st .batch)] x = g_history_came x := by kernel_rfl
theorem ok_history_came : ConOK Tryz.prog 29 c_history_came := con_ok (ConsOK.nil) L_history_came Ls_history_came (B := B_history_came) (BodiesOK.nil) Tryz.func29 rfl fun x y hf h => (run_history_came x).trans (eq_history_came x y hf h)
noncomputable def L_history_Right : List (Nat × LD) := [(4, ⟨⟨[(0, .hole (.list (.st .tree))), (19, .hole (.list (.st .tree))), (20, .hole .i), (21, .hole .i)], [], []⟩, [(.ret, ⟨[(2, .hole .bool)], [], []⟩), (.exit 0, ⟨[], [], []⟩)], 33, [1000000]⟩)]
noncomputable def Ls_history_Right : List (Nat × List (Nat × LD)) := []
noncomputable def B_history_Right : Bodies := []
theorem run_history_Right (x : denL [(.list (.st .tree))]) : run [(26, c_keytree_Start), (29, c_history_came), (27, c_plan_Next)] L_history_Right Ls_history_Right B_history_Right Tryz.f13 [(.list (.st .tree))] [.bool] x = g_history_Right x := by kernel_rfl
theorem ok_history_Right : ConOK Tryz.prog 13 c_history_Right := con_ok (ConsOK.cons ok_keytree_Start (ConsOK.cons ok_history_came (ConsOK.cons ok_plan_Next (ConsOK.nil)))) L_history_Right Ls_history_Right (B := B_history_Right) (BodiesOK.nil) Tryz.func13 rfl fun x y hf h => (run_history_Right x).trans (eq_history_Right x y hf h)
noncomputable def L_history_On : List (Nat × LD) := [(4, ⟨⟨[(1, .hole .i), (28, .hole (.list (.st .tree))), (29, .hole .i), (30, .hole .i)], [], []⟩, [(.ret, ⟨[(8, .hole .bool)], [], []⟩), (.exit 0, ⟨[], [], []⟩)], 31, [1000000]⟩)]
noncomputable def Ls_history_On : List (Nat × List (Nat × LD)) := []
noncomputable def B_history_On : Bodies := []
theorem run_history_On (x : denL [(.list (.st .tree)), .i, .i, .i]) : run [(36, c_roster_Find)] L_history_On Ls_history_On B_history_On Tryz.f19 [(.list (.st .tree)), .i, .i, .i] [.bool] x = g_history_On x := by kernel_rfl
theorem ok_history_On : ConOK Tryz.prog 19 c_history_On := con_ok (ConsOK.cons ok_roster_Find (ConsOK.nil)) L_history_On Ls_history_On (B := B_history_On) (BodiesOK.nil) Tryz.func19 rfl fun x y hf h => (run_history_On x).trans (eq_history_On x y hf h)
noncomputable def L_history_Excused : List (Nat × LD) := []
noncomputable def Ls_history_Excused : List (Nat × List (Nat × LD)) := [(60, [(2, ⟨⟨[(0, .hole (.list (.st .reveal))), (1, .fn 39 [0, 1, 2]), (7, .hole .i), (8, .hole .i)], [(0, (.list (.st .tree)), .hole (.list (.st .tree))), (1, .i, .hole .i), (2, .i, .hole .i)], []⟩, [(.ret, ⟨[(4, .hole .i)], [(0, (.list (.st .tree)), .hole (.list (.st .tree))), (1, .i, .hole .i), (2, .i, .hole .i)], []⟩), (.exit 0, ⟨[], [(0, (.list (.st .tree)), .hole (.list (.st .tree))), (1, .i, .hole .i), (2, .i, .hole .i)], []⟩)], 31, [1000000, 0, 1, 2]⟩)])]
noncomputable def B_history_Excused : Bodies := [bodyLine 39 Tryz.f39, bodyLine 38 Tryz.f38, bodyLine 60 Tryz.f60]
theorem run_history_Excused (x : denL [(.list (.st .tree)), (.list (.st .reveal)), .i, .i]) : run [(19, c_history_On), (36, c_roster_Find), (41, c_shape_Leaf), (40, c_shape_Below)] L_history_Excused Ls_history_Excused B_history_Excused Tryz.f21 [(.list (.st .tree)), (.list (.st .reveal)), .i, .i] [.bool] x = g_history_Excused x := by kernel_rfl
theorem ok_history_Excused : ConOK Tryz.prog 21 c_history_Excused := con_ok (ConsOK.cons ok_history_On (ConsOK.cons ok_roster_Find (ConsOK.cons ok_shape_Leaf (ConsOK.cons ok_shape_Below (ConsOK.nil))))) L_history_Excused Ls_history_Excused (B := B_history_Excused) (BodiesOK.cons Tryz.func39 rfl (BodiesOK.cons Tryz.func38 rfl (BodiesOK.cons Tryz.func60 rfl (BodiesOK.nil)))) Tryz.func21 rfl fun x y hf h => (run_history_Excused x).trans (eq_history_Excused x y hf h)
noncomputable def L_ref12_RowPlay : List (Nat × LD) := [(4, ⟨⟨[(4, .row (.st .tree)), (5, .row .i), (14, .hole (.list (.st .batch))), (15, .hole .i), (16, .hole .i)], [], []⟩, [(.exit 0, ⟨[(4, .row (.st .tree)), (5, .row .i)], [], []⟩)], 40, [1000000, 0]⟩)]
noncomputable def Ls_ref12_RowPlay : List (Nat × List (Nat × LD)) := []
noncomputable def B_ref12_RowPlay : Bodies := []
theorem run_ref12_RowPlay (x : denL [(.list (.st .batch))]) : run [(49, c_ref11_Start), (43, c_ref11_Next)] L_ref12_RowPlay Ls_ref12_RowPlay B_ref12_RowPlay Tryz.f28 [(.list (.st .batch))] [(.list (.st .tree)), (.list .i)] x = g_ref12_RowPlay x := by kernel_rfl
theorem ok_ref12_RowPlay : ConOK Tryz.prog 28 c_ref12_RowPlay := con_ok (ConsOK.cons ok_ref11_Start (ConsOK.cons ok_ref11_Next (ConsOK.nil))) L_ref12_RowPlay Ls_ref12_RowPlay (B := B_ref12_RowPlay) (BodiesOK.nil) Tryz.func28 rfl fun x y hf h => (run_ref12_RowPlay x).trans (eq_ref12_RowPlay x y hf h)
noncomputable def L_ref12_between : List (Nat × LD) := [(3, ⟨⟨[(2, .ptr 0 []), (3, .ptr 1 []), (4, .ptr 2 []), (5, .ptr 3 []), (6, .hole .i)], [(0, (.st .tree), .hole (.st .tree)), (1, (.st .tree), .hole (.st .tree)), (2, (.st .batch), .agv  .batch (.cons (.nils) (.cons (.nils) (.nil)))), (3, (.st .batch), .agv  .batch (.cons (.row .i) (.cons (.nils) (.nil))))], []⟩, [(.exit 0, ⟨[(2, .ptr 0 []), (3, .ptr 1 []), (4, .ptr 2 []), (5, .ptr 3 [])], [(0, (.st .tree), .hole (.st .tree)), (1, (.st .tree), .hole (.st .tree)), (2, (.st .batch), .agv  .batch (.cons (.nils) (.cons (.nils) (.nil)))), (3, (.st .batch), .agv  .batch (.cons (.row .i) (.cons (.nils) (.nil))))], []⟩)], 13, []⟩), (10, ⟨⟨[(2, .ptr 0 []), (3, .ptr 1 []), (4, .ptr 2 []), (5, .ptr 3 []), (7, .hole .i), (8, .hole .i), (9, .hole .i)], [(0, (.st .tree), .hole (.st .tree)), (1, (.st .tree), .hole (.st .tree)), (2, (.st .batch), .agv  .batch (.cons (.nils) (.cons (.nils) (.nil)))), (3, (.st .batch), .agv  .batch (.cons (.row .i) (.cons (.row .i) (.nil))))], []⟩, [(.exit 4, ⟨[(2, .ptr 0 []), (3, .ptr 1 []), (4, .ptr 2 []), (5, .ptr 3 []), (8, .hole .i)], [(0, (.st .tree), .hole (.st .tree)), (1, (.st .tree), .hole (.st .tree)), (2, (.st .batch), .agv  .batch (.cons (.nils) (.cons (.nils) (.nil)))), (3, (.st .batch), .agv  .batch (.cons (.row .i) (.cons (.row .i) (.nil))))], []⟩)], 13, []⟩), (8, ⟨⟨[(2, .ptr 0 []), (3, .ptr 1 []), (4, .ptr 2 []), (5, .ptr 3 []), (7, .hole .i)], [(0, (.st .tree), .hole (.st .tree)), (1, (.st .tree), .hole (.st .tree)), (2, (.st .batch), .agv  .batch (.cons (.nils) (.cons (.nils) (.nil)))), (3, (.st .batch), .agv  .batch (.cons (.row .i) (.cons (.row .i) (.nil))))], []⟩, [(.ret, ⟨[(4, .ptr 2 [])], [(2, (.st .batch), .agv  .batch (.cons (.row .i) (.cons (.row .i) (.nil))))], []⟩)], 26, []⟩)]
noncomputable def Ls_ref12_between : List (Nat × List (Nat × LD)) := []
noncomputable def B_ref12_between : Bodies := []
theorem run_ref12_between (x : denL [(.st .tree), (.st .tree)]) : run [] L_ref12_between Ls_ref12_between B_ref12_between Tryz.f52 [(.st .tree), (.st .tree)] [(.st .batch)] x = g_ref12_between x := by kernel_rfl
theorem ok_ref12_between : ConOK Tryz.prog 52 c_ref12_between := con_ok (ConsOK.nil) L_ref12_between Ls_ref12_between (B := B_ref12_between) (BodiesOK.nil) Tryz.func52 rfl fun x y hf h => (run_ref12_between x).trans (eq_ref12_between x y hf h)
noncomputable def L_ref12_RowRight : List (Nat × LD) := [(4, ⟨⟨[(0, .hole (.list (.st .tree))), (3, .hole .i)], [], []⟩, [(.ret, ⟨[(2, .hole .bool)], [], []⟩), (.exit 0, ⟨[], [], []⟩)], 31, [1000000]⟩)]
noncomputable def Ls_ref12_RowRight : List (Nat × List (Nat × LD)) := []
noncomputable def B_ref12_RowRight : Bodies := []
theorem run_ref12_RowRight (x : denL [(.list (.st .tree))]) : run [(49, c_ref11_Start), (52, c_ref12_between), (43, c_ref11_Next)] L_ref12_RowRight Ls_ref12_RowRight B_ref12_RowRight Tryz.f30 [(.list (.st .tree))] [.bool] x = g_ref12_RowRight x := by kernel_rfl
theorem ok_ref12_RowRight : ConOK Tryz.prog 30 c_ref12_RowRight := con_ok (ConsOK.cons ok_ref11_Start (ConsOK.cons ok_ref12_between (ConsOK.cons ok_ref11_Next (ConsOK.nil)))) L_ref12_RowRight Ls_ref12_RowRight (B := B_ref12_RowRight) (BodiesOK.nil) Tryz.func30 rfl fun x y hf h => (run_ref12_RowRight x).trans (eq_ref12_RowRight x y hf h)
noncomputable def L_ref12_RowOn : List (Nat × LD) := [(4, ⟨⟨[(0, .hole (.list (.st .tree))), (1, .hole .i), (3, .hole .i), (9, .hole .i)], [], []⟩, [(.ret, ⟨[(8, .hole .bool)], [], []⟩), (.exit 0, ⟨[], [], []⟩)], 30, [1000000]⟩)]
noncomputable def Ls_ref12_RowOn : List (Nat × List (Nat × LD)) := []
noncomputable def B_ref12_RowOn : Bodies := []
theorem run_ref12_RowOn (x : denL [(.list (.st .tree)), .i, .i, .i]) : run [(59, c_ref09_Find)] L_ref12_RowOn Ls_ref12_RowOn B_ref12_RowOn Tryz.f37 [(.list (.st .tree)), .i, .i, .i] [.bool] x = g_ref12_RowOn x := by kernel_rfl
theorem ok_ref12_RowOn : ConOK Tryz.prog 37 c_ref12_RowOn := con_ok (ConsOK.cons ok_ref09_Find (ConsOK.nil)) L_ref12_RowOn Ls_ref12_RowOn (B := B_ref12_RowOn) (BodiesOK.nil) Tryz.func37 rfl fun x y hf h => (run_ref12_RowOn x).trans (eq_ref12_RowOn x y hf h)
noncomputable def L_ref12_RowExcused : List (Nat × LD) := [(4, ⟨⟨[(0, .hole (.list (.st .tree))), (2, .hole .i), (3, .hole .i), (28, .hole (.list (.st .reveal))), (29, .hole .i), (30, .hole .i)], [], []⟩, [(.ret, ⟨[(8, .hole .bool)], [], []⟩), (.exit 0, ⟨[], [], []⟩)], 31, [1000000]⟩)]
noncomputable def Ls_ref12_RowExcused : List (Nat × List (Nat × LD)) := []
noncomputable def B_ref12_RowExcused : Bodies := []
theorem run_ref12_RowExcused (x : denL [(.list (.st .tree)), (.list (.st .reveal)), .i, .i]) : run [(37, c_ref12_RowOn), (59, c_ref09_Find), (45, c_ref01_Leaf), (63, c_ref01_Below)] L_ref12_RowExcused Ls_ref12_RowExcused B_ref12_RowExcused Tryz.f42 [(.list (.st .tree)), (.list (.st .reveal)), .i, .i] [.bool] x = g_ref12_RowExcused x := by kernel_rfl
theorem ok_ref12_RowExcused : ConOK Tryz.prog 42 c_ref12_RowExcused := con_ok (ConsOK.cons ok_ref12_RowOn (ConsOK.cons ok_ref09_Find (ConsOK.cons ok_ref01_Leaf (ConsOK.cons ok_ref01_Below (ConsOK.nil))))) L_ref12_RowExcused Ls_ref12_RowExcused (B := B_ref12_RowExcused) (BodiesOK.nil) Tryz.func42 rfl fun x y hf h => (run_ref12_RowExcused x).trans (eq_ref12_RowExcused x y hf h)
noncomputable def L_ref22_Play : List (Nat × LD) := []
noncomputable def Ls_ref22_Play : List (Nat × List (Nat × LD)) := []
noncomputable def B_ref22_Play : Bodies := []
theorem run_ref22_Play (x : denL [(.list (.st .batch))]) : run [(28, c_ref12_RowPlay)] L_ref22_Play Ls_ref22_Play B_ref22_Play Tryz.f10 [(.list (.st .batch))] [(.list (.st .tree)), (.list .i)] x = g_ref22_Play x := by kernel_rfl
theorem ok_ref22_Play : ConOK Tryz.prog 10 c_ref22_Play := con_ok (ConsOK.cons ok_ref12_RowPlay (ConsOK.nil)) L_ref22_Play Ls_ref22_Play (B := B_ref22_Play) (BodiesOK.nil) Tryz.func10 rfl fun x y hf h => (run_ref22_Play x).trans (eq_ref22_Play x y hf h)
noncomputable def L_ref22_Right : List (Nat × LD) := []
noncomputable def Ls_ref22_Right : List (Nat × List (Nat × LD)) := []
noncomputable def B_ref22_Right : Bodies := []
theorem run_ref22_Right (x : denL [(.list (.st .tree))]) : run [(30, c_ref12_RowRight)] L_ref22_Right Ls_ref22_Right B_ref22_Right Tryz.f15 [(.list (.st .tree))] [.bool] x = g_ref22_Right x := by kernel_rfl
theorem ok_ref22_Right : ConOK Tryz.prog 15 c_ref22_Right := con_ok (ConsOK.cons ok_ref12_RowRight (ConsOK.nil)) L_ref22_Right Ls_ref22_Right (B := B_ref22_Right) (BodiesOK.nil) Tryz.func15 rfl fun x y hf h => (run_ref22_Right x).trans (eq_ref22_Right x y hf h)
noncomputable def L_ref22_On : List (Nat × LD) := []
noncomputable def Ls_ref22_On : List (Nat × List (Nat × LD)) := []
noncomputable def B_ref22_On : Bodies := []
theorem run_ref22_On (x : denL [(.list (.st .tree)), .i, .i, .i]) : run [(37, c_ref12_RowOn)] L_ref22_On Ls_ref22_On B_ref22_On Tryz.f20 [(.list (.st .tree)), .i, .i, .i] [.bool] x = g_ref22_On x := by kernel_rfl
theorem ok_ref22_On : ConOK Tryz.prog 20 c_ref22_On := con_ok (ConsOK.cons ok_ref12_RowOn (ConsOK.nil)) L_ref22_On Ls_ref22_On (B := B_ref22_On) (BodiesOK.nil) Tryz.func20 rfl fun x y hf h => (run_ref22_On x).trans (eq_ref22_On x y hf h)
noncomputable def L_ref22_Excused : List (Nat × LD) := []
noncomputable def Ls_ref22_Excused : List (Nat × List (Nat × LD)) := []
noncomputable def B_ref22_Excused : Bodies := []
theorem run_ref22_Excused (x : denL [(.list (.st .tree)), (.list (.st .reveal)), .i, .i]) : run [(42, c_ref12_RowExcused)] L_ref22_Excused Ls_ref22_Excused B_ref22_Excused Tryz.f22 [(.list (.st .tree)), (.list (.st .reveal)), .i, .i] [.bool] x = g_ref22_Excused x := by kernel_rfl
theorem ok_ref22_Excused : ConOK Tryz.prog 22 c_ref22_Excused := con_ok (ConsOK.cons ok_ref12_RowExcused (ConsOK.nil)) L_ref22_Excused Ls_ref22_Excused (B := B_ref22_Excused) (BodiesOK.nil) Tryz.func22 rfl fun x y hf h => (run_ref22_Excused x).trans (eq_ref22_Excused x y hf h)
noncomputable def L_ref22_Same : List (Nat × LD) := [(4, ⟨⟨[(0, .hole (.list (.st .reveal))), (1, .hole (.list (.st .reveal))), (12, .hole .i), (13, .hole .i)], [], []⟩, [(.ret, ⟨[(4, .hole .bool)], [], []⟩), (.exit 0, ⟨[], [], []⟩)], 30, [1000000]⟩)]
noncomputable def Ls_ref22_Same : List (Nat × List (Nat × LD)) := []
noncomputable def B_ref22_Same : Bodies := []
theorem run_ref22_Same (x : denL [(.list (.st .reveal)), (.list (.st .reveal))]) : run [] L_ref22_Same Ls_ref22_Same B_ref22_Same Tryz.f18 [(.list (.st .reveal)), (.list (.st .reveal))] [.bool] x = g_ref22_Same x := by kernel_rfl
theorem ok_ref22_Same : ConOK Tryz.prog 18 c_ref22_Same := con_ok (ConsOK.nil) L_ref22_Same Ls_ref22_Same (B := B_ref22_Same) (BodiesOK.nil) Tryz.func18 rfl fun x y hf h => (run_ref22_Same x).trans (eq_ref22_Same x y hf h)
noncomputable def L_ref22_SameRow : List (Nat × LD) := [(4, ⟨⟨[(0, .hole (.list (.st .tree))), (1, .hole (.list (.st .tree))), (12, .hole .i), (13, .hole .i)], [], []⟩, [(.ret, ⟨[(4, .hole .bool)], [], []⟩), (.exit 0, ⟨[], [], []⟩)], 30, [1000000]⟩)]
noncomputable def Ls_ref22_SameRow : List (Nat × List (Nat × LD)) := []
noncomputable def B_ref22_SameRow : Bodies := []
theorem run_ref22_SameRow (x : denL [(.list (.st .tree)), (.list (.st .tree))]) : run [] L_ref22_SameRow Ls_ref22_SameRow B_ref22_SameRow Tryz.f11 [(.list (.st .tree)), (.list (.st .tree))] [.bool] x = g_ref22_SameRow x := by kernel_rfl
theorem ok_ref22_SameRow : ConOK Tryz.prog 11 c_ref22_SameRow := con_ok (ConsOK.nil) L_ref22_SameRow Ls_ref22_SameRow (B := B_ref22_SameRow) (BodiesOK.nil) Tryz.func11 rfl fun x y hf h => (run_ref22_SameRow x).trans (eq_ref22_SameRow x y hf h)
noncomputable def L_ref22_SameErrors : List (Nat × LD) := [(4, ⟨⟨[(0, .hole (.list .i)), (1, .hole (.list .i)), (12, .hole .i), (13, .hole .i)], [], []⟩, [(.ret, ⟨[(4, .hole .bool)], [], []⟩), (.exit 0, ⟨[], [], []⟩)], 30, [1000000]⟩)]
noncomputable def Ls_ref22_SameErrors : List (Nat × List (Nat × LD)) := []
noncomputable def B_ref22_SameErrors : Bodies := []
theorem run_ref22_SameErrors (x : denL [(.list .i), (.list .i)]) : run [] L_ref22_SameErrors Ls_ref22_SameErrors B_ref22_SameErrors Tryz.f12 [(.list .i), (.list .i)] [.bool] x = g_ref22_SameErrors x := by kernel_rfl
theorem ok_ref22_SameErrors : ConOK Tryz.prog 12 c_ref22_SameErrors := con_ok (ConsOK.nil) L_ref22_SameErrors Ls_ref22_SameErrors (B := B_ref22_SameErrors) (BodiesOK.nil) Tryz.func12 rfl fun x y hf h => (run_ref22_SameErrors x).trans (eq_ref22_SameErrors x y hf h)
end Go.Proofs.YtghlolinkmlkeaaGreatDoor
end
