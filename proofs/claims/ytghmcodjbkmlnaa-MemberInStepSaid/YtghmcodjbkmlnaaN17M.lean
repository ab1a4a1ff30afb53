/-
  Who stands at another tree of a row doesn't open it: DataApart.
  Own text, for the claims about coterie. No program in sight.
-/
import Derived.Test.YtghmcodjbkmlnaaN17H
import Derived.Test.YtghmcodjbkmlnaaN17L
namespace Go.Co.N
open Go Go.Co

theorem lat_app_lt {α : Type} [Inhabited α] (l : List α) (y : α) {i : Nat} (h : i < l.length) : lat (l ++ [y]) (i : Int) = lat l (i : Int) := by
  rw [lat_nat _ _ (by simp; omega), lat_nat _ _ h, List.getElem_append_left h]
theorem lat_app_last {α : Type} [Inhabited α] (l : List α) (y : α) : lat (l ++ [y]) (l.length : Int) = y := by
  rw [lat_nat _ _ (by simp)]; simp
/-- Trees of a row: each one epoch on. -/
structure Chain (t : Tree) (a : List Tree) : Prop where
  ne : 1 ≤ a.length
  ep : ∀ i : Nat, i < a.length → (lat a (i : Int)).Epoch = t.Epoch + i
  le : a.length = 1 ∨ (0 ≤ t.Epoch ∧ t.Epoch + a.length ≤ 201)
theorem chain_one (t : Tree) : Chain t [t] := ⟨by simp, fun i hi => by
  have : i = 0 := by simp at hi; exact hi
  subst this; simp [lat], .inl rfl⟩
theorem nextR_ok {t : Tree} {b : Batch} (h : (nextR t b).2.2 = 0) : (nextR t b).1.Epoch = t.Epoch + 1 ∧ 0 ≤ t.Epoch ∧ t.Epoch < 200 := by
  have h0 : (nextT t b).e = 0 := by
    by_cases h0 : (nextT t b).e = 0
    · exact h0
    · have : (nextR t b).2.2 = (nextT t b).e := by unfold nextR; rw [decide_eq_false h0]; rfl
      exact this ▸ h
  have h1 : (nextR t b).1 = (nextT t b).t := by unfold nextR; rw [decide_eq_true h0]; rfl
  rw [h1]
  by_cases hg : goodTree t = true
  case neg => simp [nextT, hg] at h0
  by_cases he : t.Epoch = 200
  case pos => simp [nextT, hg, he] at h0
  by_cases hf : fits t.Roster b = 0
  case neg => simp [nextT, hg, he, hf] at h0
  by_cases hs : (stepTurn t b).2.2 = 0
  case neg => simp [nextT, hg, he, hf, hs] at h0
  by_cases hm : (stepMove t b).e = 0
  case neg => simp [nextT, hg, he, hf, hs, hm] at h0
  obtain ⟨g1, g2, _⟩ := goodTree_iff.1 hg
  refine ⟨?_, g1, by omega⟩
  simp [nextT, hg, he, hf, hs, hm]
theorem Chain.more {t : Tree} {a : List Tree} (h : Chain t a) {b : Batch} {last : Tree} (hl : lat a ((a.length : Int) - 1) = last) (hn : (nextR last b).2.2 = 0) : Chain t (a ++ [(nextR last b).1]) ∧ a.length ≤ 200 := by
  obtain ⟨n1, n2, n3⟩ := nextR_ok hn
  have h1 := h.ne
  have hle := h.ep (a.length - 1) (by omega)
  rw [show ((a.length - 1 : Nat) : Int) = (a.length : Int) - 1 by omega, hl] at hle
  have h3 := h.le
  refine ⟨⟨by simp, fun i hi => ?_, ?_⟩, by omega⟩
  · by_cases hlt : i < a.length
    · rw [lat_app_lt _ _ hlt]; exact h.ep i hlt
    · have : i = a.length := by simp at hi; omega
      subst this
      rw [lat_app_last, n1]; omega
  · right
    simp only [List.length_append, List.length_cons, List.length_nil]
    omega
theorem apart_loop1 (t : Tree) (who : Int) (script : List Batch) (hs : script.length ≤ 140737488355328) : ∀ (d i : Nat) (a : List Tree), i + d = script.length → Chain t a →
    ∃ a', Chain t a' ∧ lfp g_law17_DataApart_r1 ((who, a, script, (script.length : Int), (i : Int), ()), (), ()) = some ((who, a', ()), (), ()) := by
  intro d
  induction d with
  | zero =>
    intro i a hi hc
    refine ⟨a, hc, lfp_inr ?_⟩
    have : ¬ (i : Int) < (script.length : Int) := by omega
    simp only [g_law17_DataApart_r1, this, decide_false, cond_false]
  | succ d ih =>
    intro i a hi hc
    have h1 : (i : Int) < (script.length : Int) := by omega
    have h0 : (0 : Int) ≤ (i : Int) := by omega
    have hw : IntKind.i64.wrap ((i : Int) + 1) = ((i + 1 : Nat) : Int) := by rw [i64_in _ (by omega)]; omega
    have hne := hc.ne
    have hlen : a.length ≤ 201 := by have := hc.le; omega
    have hw2 : IntKind.i64.wrap ((a.length : Int) - 1) = (a.length : Int) - 1 := i64_in _ (by omega)
    have p1 : (0 : Int) ≤ (a.length : Int) - 1 := by omega
    have p2 : (a.length : Int) - 1 < (a.length : Int) := by omega
    by_cases hn : (nextR (lat a ((a.length : Int) - 1)) (lat script (i : Int))).2.2 = 0
    · obtain ⟨hc', hle⟩ := hc.more rfl hn
      obtain ⟨a', g1, g2⟩ := ih (i + 1) _ (by omega) hc'
      refine ⟨a', g1, ?_⟩
      rw [← g2]
      apply lfp_inl
      have hb : (a.length + 1) * 1888 ≤ 140737488355328 := by omega
      simp only [g_law17_DataApart_r1, h1, h0, hw, hw2, p1, p2, hn, hb, decide_true, Bool.and_self, cond_true]
      rfl
    · obtain ⟨a', g1, g2⟩ := ih (i + 1) a (by omega) hc
      refine ⟨a', g1, ?_⟩
      rw [← g2]
      apply lfp_inl
      simp only [g_law17_DataApart_r1, h1, h0, hw, hw2, p1, p2, hn, decide_true, decide_false, Bool.and_self, cond_true, cond_false]

/-- Who stands. -/
theorem stand_is {t : Tree} {who : Int} (h : (stand t who).2 = 0) : ∃ s : Nat, s < 64 ∧ goodTree t = true ∧ isOn t.Roster s = true ∧ (ent t.Roster s).Who = who ∧ stand t who = (standAt t who s, 0) := by
  have hg : goodTree t = true := by
    cases h' : goodTree t with
    | true => rfl
    | false => simp [stand, h'] at h
  have hf : 0 ≤ findR t.Roster who := by
    by_cases h' : 0 ≤ findR t.Roster who
    · exact h'
    · simp [stand, hg, h'] at h
  obtain ⟨s, hs, he, hon, hw, _⟩ := findR_some hf
  exact ⟨s, hs, hg, hon, hw, by rw [stand_ok hg hf, he]⟩
theorem group_out {t : Tree} {who : Int} {s : Nat} (hs : s < 64) (hg : goodTree t = true) (hon : isOn t.Roster s = true) (hw : (ent t.Roster s).Who = who) : group (outM who t.Epoch) = (⟨0, 0⟩, 20) := by
  have he := stand_epoch hg hs hon
  have hr := goodE_iff.1 (roster_on (goodTree_iff.1 hg).2.2.2.2.2.1 hs hon).1
  have h1 : ¬ outM who t.Epoch = zeroM := fun h => by
    have := congrArg Member.Epoch h
    have : t.Epoch = 0 := this
    omega
  have a1 : betw who 0 255 = true := betw_iff.2 (by rw [← hw]; omega)
  have a2 : betw t.Epoch 1 200 = true := betw_iff.2 (by omega)
  have hk : kind (outM who t.Epoch) = 1 := by
    unfold kind
    rw [decide_eq_false h1]
    show (bif decide (outM who t.Epoch = outM who t.Epoch) && betw who 0 255 && betw t.Epoch 1 200 then (1 : Int) else -1) = 1
    rw [a1, a2, decide_eq_true rfl]; rfl
  unfold group; rw [hk]; rfl
theorem goodSealed_stand {t : Tree} {s : Nat} (hs : s < 64) (hg : goodTree t = true) (hon : isOn t.Roster s = true) {text : ByteArray} (hsz : text.size ≤ 64) : goodSealed ⟨t.Epoch, Arr.get t.Keys 0, text⟩ = true := by
  have hep := stand_epoch hg hs hon
  have hk' : good (Arr.get t.Keys 0) = true := (goodKeys_iff.1 (goodTree_iff.1 hg).2.2.2.2.1 0 (by omega)).1
  have hb : betw t.Epoch 1 200 = true := betw_iff.2 hep
  unfold goodSealed
  simp only [hb, hk', hsz, decide_true, Bool.and_self]
theorem x_ne : ¬ ByteArray.empty = bytesOf [120] := fun h => by
  have := congrArg ByteArray.size h
  revert this
  decide
theorem apart_in (t : Tree) (trees : List Tree) (hc : Chain t trees) (who : Int) (c : Nat) (hcl : c < trees.length) (s : Nat) (hs : s < 64) (hg : goodTree (lat trees (c : Int)) = true) (hon : isOn (lat trees (c : Int)).Roster s = true) (hw : (ent (lat trees (c : Int)).Roster s).Who = who) (hlen : trees.length ≤ 201) :
    lfp g_law17_DataApart_r3 ((who, trees, (c : Int), (), (), trees, (trees.length : Int), (c : Int), trees, (trees.length : Int), 0, ()), (standAt (lat trees (c : Int)) who s, ⟨(lat trees (c : Int)).Epoch, Arr.get (lat trees (c : Int)).Keys 0, bytesOf [120]⟩, ()), ())
      = some (.inr ((who, trees, (), (), trees, (trees.length : Int), (c : Int), ()), (standAt (lat trees (c : Int)) who s, ⟨(lat trees (c : Int)).Epoch, Arr.get (lat trees (c : Int)).Keys 0, bytesOf [120]⟩, ()), ())) := by
  rw [lfp_run' (fun i => ((who, trees, (c : Int), (), (), trees, (trees.length : Int), (c : Int), trees, (trees.length : Int), (i : Int), ()), (standAt (lat trees (c : Int)) who s, ⟨(lat trees (c : Int)).Epoch, Arr.get (lat trees (c : Int)).Keys 0, bytesOf [120]⟩, ()), ())) trees.length (by rfl) fun i hi => by
    have h1 : (i : Int) < (trees.length : Int) := by omega
    have h0 : (0 : Int) ≤ (i : Int) := by omega
    have hwr : IntKind.i64.wrap ((i : Int) + 1) = ((i + 1 : Nat) : Int) := wrap1 i (by omega)
    by_cases hst : (stand (lat trees (i : Int)) who).2 = 0
    case neg => simp only [g_law17_DataApart_r3, h1, h0, hwr, hst, decide_true, decide_false, Bool.and_self, Bool.not_false, cond_true]
    obtain ⟨s', hs', hg', hon', hw', he'⟩ := stand_is hst
    have hgr := group_stand hg' hs' hon'
    rw [hw'] at hgr
    have hgs : goodSealed ⟨(lat trees (c : Int)).Epoch, Arr.get (lat trees (c : Int)).Keys 0, bytesOf [120]⟩ = true := goodSealed_stand hs hg hon (by decide)
    have e1 := hc.ep i hi
    have e2 := hc.ep c hcl
    have hep : (standAt (lat trees (i : Int)) who s').Epoch = t.Epoch + i := e1
    have key : openM (standAt (lat trees (i : Int)) who s') ⟨(lat trees (c : Int)).Epoch, Arr.get (lat trees (c : Int)).Keys 0, bytesOf [120]⟩ = if c = i then (bytesOf [120], 0) else if c < i then (ByteArray.empty, 21) else (ByteArray.empty, 32) := by
      unfold openM
      rw [hgr, hgs, hep]
      simp only [decide_true, cond_true, e2]
      by_cases hci : c = i
      · subst hci
        have n1 : ¬ t.Epoch + (c : Int) < t.Epoch + (c : Int) := by omega
        simp only [n1, decide_false, decide_true, cond_false, cond_true, if_true]
      · by_cases hlt : c < i
        · have n1 : t.Epoch + (c : Int) < t.Epoch + (i : Int) := by omega
          simp only [n1, hci, hlt, decide_true, cond_true, if_true, if_false]
        · have n1 : ¬ t.Epoch + (c : Int) < t.Epoch + (i : Int) := by omega
          have n2 : t.Epoch + (i : Int) < t.Epoch + (c : Int) := by omega
          simp only [n1, n2, hci, hlt, decide_true, decide_false, cond_true, cond_false, if_false]
    simp only [g_law17_DataApart_r3, h1, h0, hwr, he', decide_true, Bool.and_self, Bool.not_true, cond_true, cond_false, key]
    by_cases hci : c = i
    · subst hci
      simp
    · by_cases hlt : c < i
      · have n1 : ¬ (c : Int) = (i : Int) := by omega
        have n2 : (c : Int) < (i : Int) := by omega
        have n3 : ¬ (i : Int) < (c : Int) := by omega
        simp [hci, hlt, n1, n3, x_ne]
      · have n1 : ¬ (c : Int) = (i : Int) := by omega
        have n2 : ¬ (c : Int) < (i : Int) := by omega
        have n3 : (i : Int) < (c : Int) := by omega
        have n4 : i < c := by omega
        simp [hci, hlt, n1, n2, n4, x_ne]]
  refine lfp_inr ?_
  have : ¬ (trees.length : Int) < (trees.length : Int) := by omega
  simp only [g_law17_DataApart_r3, this, decide_false, cond_false]
theorem eq_law17_DataApart : Eqs c_law17_DataApart g_law17_DataApart := Eqs.tot fun (t, script, who, _) hf => by
  change Tree at t
  change List Batch at script
  change Int at who
  have hl : script.length * 48 ≤ 140737488355328 := (Fine.list.1 hf.2.1).1
  obtain ⟨trees, hc, h1⟩ := apart_loop1 t who script (by omega) script.length 0 [t] (by omega) (chain_one t)
  have hlen : trees.length ≤ 201 := by
    rcases hc.le with h | h
    · omega
    · omega
  simp only [g_law17_DataApart]
  rw [show (0 : Int) = ((0 : Nat) : Int) from rfl, h1]
  simp only [Option.bind_some]
  rw [lfp_run' (fun i => ((who, trees, trees, (trees.length : Int), (i : Int), ()), (), ())) trees.length (by rfl) fun i hi => by
    have h1 : (i : Int) < (trees.length : Int) := by omega
    have h0 : (0 : Int) ≤ (i : Int) := by omega
    have hwr : IntKind.i64.wrap ((i : Int) + 1) = ((i + 1 : Nat) : Int) := wrap1 i (by omega)
    by_cases hst : (stand (lat trees (i : Int)) who).2 = 0
    case neg => simp only [g_law17_DataApart_r2, h1, h0, hwr, hst, decide_true, decide_false, Bool.and_self, Bool.not_false, cond_true]
    obtain ⟨s, hs, hg, hon, hw, he⟩ := stand_is hst
    have hgr := group_stand hg hs hon
    rw [hw] at hgr
    have hse : sealM (standAt (lat trees (i : Int)) who s) (bytesOf [120]) = (⟨(lat trees (i : Int)).Epoch, Arr.get (lat trees (i : Int)).Keys 0, bytesOf [120]⟩, 0) := by
      unfold sealM
      rw [hgr]
      rfl
    have hin := apart_in t trees hc who i hi s hs hg hon hw hlen
    have hout : openM (outM who (lat trees (i : Int)).Epoch) ⟨(lat trees (i : Int)).Epoch, Arr.get (lat trees (i : Int)).Keys 0, bytesOf [120]⟩ = (ByteArray.empty, 20) := by
      unfold openM
      rw [group_out hs hg hon hw]; rfl
    simp only [g_law17_DataApart_r2, h1, h0, hwr, he, hse, hin, decide_true, Bool.and_self, Bool.not_true, cond_true, cond_false, Option.bind_some, Sum.elim_inr]
    rw [show (Member.mk (standAt (lat trees (i : Int)) who s).Who 0 (standAt (lat trees (i : Int)) who s).Epoch (St.zero St.key) (Vector.replicate 3 (St.zero St.key)) false true 0) = outM who (lat trees (i : Int)).Epoch from rfl, hout]
    rfl]
  rw [lfp_inr (z := .inr ((), (), ())) (by
    have : ¬ (trees.length : Int) < (trees.length : Int) := by omega
    simp only [g_law17_DataApart_r2, this, decide_false, cond_false])]
  simp
end Go.Co.N
