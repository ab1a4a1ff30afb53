/-
  What a reply gives is of its epoch: RecoveryYoung.
  The program computes so: printed by a program of my own (wip/tool).
  The program computes so: printed by a program of my own (wip/tool).
  No conditions. Own text, for the claims about coterie.
-/
import Derived.Test.YtnepdmajobfcdaaPartD

section
namespace Go.Co.N
open Go Go.Co

/-- A node's key in a later tree: a fresh name, or the old one's, advanced. -/
def Adv (t n : Tree) : Prop := t.Fresh ≤ n.Fresh ∧ ∀ v : Nat, v < 85 → (ofT n v).2 = 0 → t.Fresh ≤ (ofT n v).1.Base ∨ ((ofT t v).2 = 0 ∧ (ofT n v).1.Base = (ofT t v).1.Base ∧ (ofT t v).1.Step < (ofT n v).1.Step)
theorem adv_step {t : Tree} {b : Batch} (h : (nextT t b).e = 0) : Adv t (nextT t b).t := by
  have hr := nx_room h
  have hf := nx_fresh h
  refine ⟨by omega, fun v hv h0 => ?_⟩
  rcases st_of h hv h0 with h1 | ⟨h1, h2, _⟩
  · exact .inl h1
  · refine .inr ⟨h1, by rw [h2], ?_⟩
    rw [h2]
    show (ofT t v).1.Step < (ofT t v).1.Step + 1
    omega
theorem adv_trans {t m n : Tree} (h : Adv t m) (h' : Adv m n) : Adv t n := by
  refine ⟨Int.le_trans h.1 h'.1, fun v hv h0 => ?_⟩
  have hf := h.1
  rcases h'.2 v hv h0 with h1 | ⟨h1, h2, h3⟩
  · exact .inl (by omega)
  · rcases h.2 v hv h1 with g1 | ⟨g1, g2, g3⟩
    · exact .inl (by omega)
    · exact .inr ⟨g1, by omega, by omega⟩
theorem adv_gives {t n : Tree} (hg : goodTree t = true) (h : Adv t n) {v w : Nat} (hv : v < 85) (h0 : (ofT t v).2 = 0) (hw : w < 85) (h1 : (ofT n w).2 = 0) : gives (ofT n w).1 (ofT t v).1 = false := by
  cases hgv : gives (ofT n w).1 (ofT t v).1 with
  | false => rfl
  | true =>
    exfalso
    obtain ⟨_, _, e1, e2⟩ := gives_iff.1 hgv
    have hlt := (ofT_ok hg hv h0).2.1
    rcases h.2 w hw h1 with g1 | ⟨g1, g2, g3⟩
    · omega
    · rw [g2] at e1
      rcases Nat.lt_trichotomy v w with hl | rfl | hl
      · exact ofT_names hg hw hl g1 h0 e1.symm
      · omega
      · exact ofT_names hg hv hl h0 g1 e1
/-- Each later tree of a row is one behind steps from each earlier one. -/
def ChainA (a : List Tree) : Prop := ∀ i j : Nat, i < j → j < a.length → goodTree (lat a (i : Int)) = true ∧ Adv (lat a (i : Int)) (lat a (j : Int))
theorem chainA_one (t : Tree) : ChainA [t] := fun i j hij hj => by simp at hj; omega
theorem ChainA.more {a : List Tree} (h : ChainA a) (ha : 1 ≤ a.length) {b : Batch} {last : Tree} (hl : lat a ((a.length : Int) - 1) = last) (hn : (nextR last b).2.2 = 0) : ChainA (a ++ [(nextR last b).1]) := by
  have h0 : (nextT last b).e = 0 := by rw [nextR_e] at hn; exact hn
  have hg := (nextT_ok h0).1
  have hs := adv_step h0
  rw [nextR_is h0]
  intro i j hij hj
  simp at hj
  by_cases hlt : j < a.length
  · rw [lat_app_lt _ _ hlt, lat_app_lt _ _ (by omega)]
    exact h i j hij hlt
  · have : j = a.length := by omega
    subst this
    rw [lat_app_last, lat_app_lt _ _ hij]
    have hll : lat a ((a.length - 1 : Nat) : Int) = last := by rw [← hl]; congr 1; omega
    by_cases hi : i = a.length - 1
    · subst hi; rw [hll]; exact ⟨hg, hs⟩
    · have := h i (a.length - 1) (by omega) (by omega)
      rw [hll] at this
      exact ⟨this.1, adv_trans this.2 hs⟩
theorem young_loop1 (t : Tree) (script : List Batch) (hs : script.length ≤ 140737488355328) : ∀ (d i : Nat) (a : List Tree), i + d = script.length → Chain t a → ChainA a →
    ∃ a', Chain t a' ∧ ChainA a' ∧ lfp g_law16_RecoveryYoung_r1 (((), a, script, (script.length : Int), (i : Int), ()), (), ()) = some (((), a', ()), (), ()) := by
  intro d
  induction d with
  | zero =>
    intro i a hi hc ha
    refine ⟨a, hc, ha, lfp_inr ?_⟩
    have : ¬ (i : Int) < (script.length : Int) := by omega
    simp only [g_law16_RecoveryYoung_r1, this, decide_false, cond_false]
  | succ d ih =>
    intro i a hi hc ha
    have h1 : (i : Int) < (script.length : Int) := by omega
    have h0 : (0 : Int) ≤ (i : Int) := by omega
    have hw : IntKind.i64.wrap ((i : Int) + 1) = ((i + 1 : Nat) : Int) := by rw [i64_in _ (by omega)]; omega
    have hne := hc.ne
    have hlen : a.length ≤ 201 := by have := hc.le; omega
    have hw2 : IntKind.i64.wrap ((a.length : Int) - 1) = (a.length : Int) - 1 := i64_in _ (by omega)
    have p1 : (0 : Int) ≤ (a.length : Int) - 1 := by omega
    have p2 : (a.length : Int) - 1 < (a.length : Int) := by omega
    by_cases hn : (nextR (lat a ((a.length : Int) - 1)) (lat script (i : Int))).2.2 = 0
    · obtain ⟨hc', hle⟩ := hc.more rfl hn
      obtain ⟨a', g1, g3, g2⟩ := ih (i + 1) _ (by omega) hc' (ha.more hne rfl hn)
      refine ⟨a', g1, g3, ?_⟩
      rw [← g2]
      apply lfp_inl
      have hb : (a.length + 1) * 1888 ≤ 140737488355328 := by omega
      simp only [g_law16_RecoveryYoung_r1, h1, h0, hw, hw2, p1, p2, hn, hb, decide_true, Bool.and_self, cond_true]
      rfl
    · obtain ⟨a', g1, g3, g2⟩ := ih (i + 1) a (by omega) hc ha
      refine ⟨a', g1, g3, ?_⟩
      rw [← g2]
      apply lfp_inl
      simp only [g_law16_RecoveryYoung_r1, h1, h0, hw, hw2, p1, p2, hn, decide_true, decide_false, Bool.and_self, cond_true, cond_false]
theorem young_r4 {p : Reply} {k : Key} (hp : ∀ i : Nat, i < 3 → gives (Arr.get p.Path (i : Int)).Load k = false ∧ gives (Arr.get p.Path (i : Int)).Under k = false) (a b c d : Int) :
    lfp g_law16_RecoveryYoung_r4 (((), (), (), a, (), 0, b, c, d, ()), (p, k, ()), ()) = some (.inr (((), (), (), a, b, c, d, ()), (p, k, ()), ())) := by
  rw [lfp_run' (fun i => (((), (), (), a, (), (i : Int), b, c, d, ()), (p, k, ()), ())) 3 (by simp) fun i hi => by
    have g1 : (i : Int) < 3 := by omega
    obtain ⟨h1, h2⟩ := hp i hi
    simp only [g_law16_RecoveryYoung_r4, g1, h1, h2, decide_true, cond_true, cond_false, Int.natCast_nonneg, Bool.and_self, wrap1 i (by omega)]]
  exact lfp_inr (by simp [g_law16_RecoveryYoung_r4])
theorem young_r3 {p : Reply} {t : Tree} (hp : ∀ v : Nat, v < 85 → (keyOf t v).2 = 0 → ∀ i : Nat, i < 3 → gives (Arr.get p.Path (i : Int)).Load (keyOf t v).1 = false ∧ gives (Arr.get p.Path (i : Int)).Under (keyOf t v).1 = false) (b c d : Int) :
    lfp g_law16_RecoveryYoung_r3 (((), (), (), 0, b, c, d, ()), (p, t, ()), ()) = some (.inr (((), (), b, c, d, ()), (p, t, ()), ())) := by
  rw [lfp_run' (fun v => (((), (), (), (v : Int), b, c, d, ()), (p, t, ()), ())) 85 (by simp) fun v hv => by
    have g1 : (v : Int) < 85 := by omega
    simp only [g_law16_RecoveryYoung_r3, g1, decide_true, cond_true]
    by_cases h0 : (keyOf t v).2 = 0
    · rw [young_r4 (hp v hv h0)]
      simp only [h0, decide_true, Bool.not_true, cond_false, Option.bind_some, Sum.elim_inr, wrap1 v (by omega)]
    · simp only [h0, decide_false, Bool.not_false, cond_true, wrap1 v (by omega)]]
  exact lfp_inr (by simp [g_law16_RecoveryYoung_r3])
theorem answer_bad {t : Tree} {q : Request} (h : ¬ (answerT t q).2 = 0) : (answerT t q).1 = zeroY := by
  revert h
  unfold answerT
  cases goodTree t <;> cases betw q.Who 0 255 <;> cases decide ((stand t q.Who).2 = 0) <;> cases betw q.Epoch 1 t.Epoch <;> simp
theorem eq_law16_RecoveryYoung : Eqs c_law16_RecoveryYoung g_law16_RecoveryYoung := Eqs.tot fun (l, _) hf => by
  change Lag at l
  have hsl : l.Script.length * 48 ≤ 140737488355328 := fine_lag hf.1
  show g_law16_RecoveryYoung (l, ()) = some (true, ())
  simp only [g_law16_RecoveryYoung]
  obtain ⟨a, hc, ha, hl⟩ := young_loop1 l.Tree l.Script (by omega) l.Script.length 0 [l.Tree] (by omega) (chain_one _) (chainA_one _)
  rw [show lfp g_law16_RecoveryYoung_r1 (((), [l.Tree], l.Script, (l.Script.length : Int), 0, ()), (), ()) = _ from hl]
  simp only [Option.bind_some]
  have hne := hc.ne
  have hlen : a.length ≤ 201 := by have := hc.le; omega
  have hw2 : IntKind.i64.wrap ((a.length : Int) - 1) = (a.length : Int) - 1 := i64_in _ (by omega)
  have p1 : (0 : Int) ≤ (a.length : Int) - 1 := by omega
  have p2 : (a.length : Int) - 1 < (a.length : Int) := by omega
  have p3 : (a.length : Int) - 1 ≤ (a.length : Int) := by omega
  have hcast : (a.length : Int) - 1 = ((a.length - 1 : Nat) : Int) := by omega
  simp only [hw2, p1, p2, p3, decide_true, Bool.and_self, cond_true]
  rw [hcast]
  generalize hn : lat a ((a.length - 1 : Nat) : Int) = n at *
  have hz : Reply.mk 0 0 0 (Vector.replicate 3 (St.zero St.box)) = zeroY := rfl
  by_cases h0 : (answerT n (Request.mk l.Who 1)).2 = 0
  case neg =>
    have : (answerT n (Request.mk l.Who 1)).1 = zeroY := answer_bad h0
    rw [this, decide_eq_false h0, hz]
    simp
  rw [decide_eq_true h0]
  simp only [Bool.not_true, cond_false]
  -- who stands at the last tree
  have hgn : goodTree n = true := by
    cases hg : goodTree n with
    | true => rfl
    | false => unfold answerT at h0; rw [hg] at h0; simp at h0
  obtain ⟨s, hs, hon, hwho, hslot⟩ := answer_slot h0
  have hwho : (ent n.Roster s).Who = l.Who := hwho
  have hep := stand_epoch hgn hs hon
  have hans : answerT n (Request.mk l.Who 1) = (replyOf (standAt n (ent n.Roster s).Who s), 0) := by
    rw [← hwho]
    exact answer_stand hgn hs hon (by omega) hep.1
  rw [hans]
  have hpath : ∀ i : Nat, i < 3 → Arr.get (replyOf (standAt n (ent n.Roster s).Who s)).Path (i : Int) = ⟨(ofT n ((21 + s : Nat) : Int)).1, Arr.get n.Keys (pathAt s i)⟩ := fun i hi => by
    show Arr.get (Arr.make fun i => (⟨(standAt n (ent n.Roster s).Who s).Leaf, Arr.get (standAt n (ent n.Roster s).Who s).Path (i : Int)⟩ : Box)) (i : Int) = _
    rw [get_make _ _ (by omega) (by omega), Int.toNat_natCast]
    have h1 : (standAt n (ent n.Roster s).Who s).Leaf = (ofT n ((21 + s : Nat) : Int)).1 := by rw [ofT_leaf n hs]; rfl
    have h2 : Arr.get (standAt n (ent n.Roster s).Who s).Path (i : Int) = Arr.get n.Keys (pathAt s i) := by
      show Arr.get (Arr.make fun i => Arr.get n.Keys (pathAt s i)) (i : Int) = _
      rw [get_make _ _ (by omega) (by omega), Int.toNat_natCast]
    rw [h1, h2]
  have hleaf0 : (ofT n ((21 + s : Nat) : Int)).2 = 0 := by rw [ofT_leaf n hs, leafAt_on hgn hs hon]
  -- no earlier key is given
  have hno : ∀ i : Nat, i < a.length - 1 → ∀ v : Nat, v < 85 → (keyOf (lat a (i : Int)) v).2 = 0 → ∀ j : Nat, j < 3 →
      gives (Arr.get (replyOf (standAt n (ent n.Roster s).Who s)).Path (j : Int)).Load (keyOf (lat a (i : Int)) v).1 = false ∧ gives (Arr.get (replyOf (standAt n (ent n.Roster s).Who s)).Path (j : Int)).Under (keyOf (lat a (i : Int)) v).1 = false := fun i hi v hv hk j hj => by
    obtain ⟨hgi, hadv⟩ := ha i (a.length - 1) hi (by omega)
    rw [hn] at hadv
    rw [keyOf_good hgi] at hk ⊢
    rw [hpath j hj]
    obtain ⟨w, hw, hw2, _⟩ := path_at hs j hj
    refine ⟨?_, adv_gives hgi hadv hv hk (by omega) hleaf0⟩
    have := adv_gives hgi hadv hv hk (w := w) (by omega) (by rw [ofT_inner n hw2])
    rw [ofT_inner n hw2] at this
    rw [hw]; exact this
  have l2 : lfp g_law16_RecoveryYoung_r2 (((), (), ((a.length - 1 : Nat) : Int), ((a.length - 1 : Nat) : Int), 0, ()), (replyOf (standAt n (ent n.Roster s).Who s), ()), a, ()) = some (.inr (((), (), ()), (replyOf (standAt n (ent n.Roster s).Who s), ()), a, ())) := by
    rw [lfp_run' (fun i => (((), (), ((a.length - 1 : Nat) : Int), ((a.length - 1 : Nat) : Int), (i : Int), ()), (replyOf (standAt n (ent n.Roster s).Who s), ()), a, ())) (a.length - 1) (by simp) fun i hi => by
      have g1 : (i : Int) < ((a.length - 1 : Nat) : Int) := by omega
      simp only [g_law16_RecoveryYoung_r2, g1, decide_true, cond_true, Int.natCast_nonneg, Bool.and_self]
      rw [young_r3 (hno i hi)]
      simp only [Option.bind_some, Sum.elim_inr, wrap1 i (by omega)]]
    exact lfp_inr (by simp [g_law16_RecoveryYoung_r2])
  rw [l2]
  have hsl2 : (replyOf (standAt n (ent n.Roster s).Who s)).Slot = (s : Int) := rfl
  have hlf : 0 ≤ leaf (s : Int) := leaf_pos.2 (by omega)
  obtain ⟨w0, hw0, hw02, _⟩ := path_at hs 0 (by omega)
  obtain ⟨w2, hw2', _⟩ := path_at hs 2 (by omega)
  have q0 := pathN_get (s : Int) 0 (by omega)
  have hP0 := hpath 0 (by omega)
  have hP2 := hpath 2 (by omega)
  have e0 : ((0 : Nat) : Int) = 0 := rfl
  have e2 : ((2 : Nat) : Int) = 2 := rfl
  rw [e0] at q0 hP0
  rw [e2] at hP2
  have hr : pathAt (s : Int) 2 = 0 := by simp [pathAt]
  have w1 : (0 : Int) ≤ (w0 : Int) := by omega
  have w3 : (w0 : Int) < 21 := by omega
  simp only [Option.bind_some, Sum.elim_inr, hsl2, hlf, decide_true, cond_true, q0, hP0, hP2, hr, hw0, w1, w3, Bool.and_self]
end Go.Co.N
end

section
namespace Go.Proofs.Ytnepdmajobfcdaa
open Go Go.Co Go.Co.N Go.Proofs
noncomputable def L_key_Good : List (Nat × LD) := []
noncomputable def Ls_key_Good : List (Nat × List (Nat × LD)) := []
noncomputable def B_key_Good : Bodies := []
theorem run_key_Good (x : denL [(.st .key)]) : run [] L_key_Good Ls_key_Good B_key_Good Try.f52 [(.st .key)] [.bool] x = g_key_Good x := by kernel_rfl
theorem ok_key_Good : ConOK Try.prog 52 c_key_Good := con_ok (ConsOK.nil) L_key_Good Ls_key_Good (B := B_key_Good) (BodiesOK.nil) Try.func52 rfl fun x y hf h => (run_key_Good x).trans (eq_key_Good x y hf h)
noncomputable def L_ref02_Good : List (Nat × LD) := []
noncomputable def Ls_ref02_Good : List (Nat × List (Nat × LD)) := []
noncomputable def B_ref02_Good : Bodies := []
theorem run_ref02_Good (x : denL [(.st .key)]) : run [] L_ref02_Good Ls_ref02_Good B_ref02_Good Try.f16 [(.st .key)] [.bool] x = g_ref02_Good x := by kernel_rfl
theorem ok_ref02_Good : ConOK Try.prog 16 c_ref02_Good := con_ok (ConsOK.nil) L_ref02_Good Ls_ref02_Good (B := B_ref02_Good) (BodiesOK.nil) Try.func16 rfl fun x y hf h => (run_ref02_Good x).trans (eq_ref02_Good x y hf h)
noncomputable def L_ref02_Ahead : List (Nat × LD) := [(6, ⟨⟨[(1, .hole .i), (2, .ptr 0 []), (4, .ptr 1 []), (6, .hole .i)], [(0, (.st .key), .hole (.st .key)), (1, (.st .key), .hole (.st .key))], []⟩, [(.exit 0, ⟨[(2, .ptr 0 []), (4, .ptr 1 [])], [(0, (.st .key), .hole (.st .key)), (1, (.st .key), .hole (.st .key))], []⟩)], 10, []⟩)]
noncomputable def Ls_ref02_Ahead : List (Nat × List (Nat × LD)) := []
noncomputable def B_ref02_Ahead : Bodies := []
theorem run_ref02_Ahead (x : denL [(.st .key), .i]) : run [(16, c_ref02_Good)] L_ref02_Ahead Ls_ref02_Ahead B_ref02_Ahead Try.f34 [(.st .key), .i] [(.st .key), .i] x = g_ref02_Ahead x := by kernel_rfl
theorem ok_ref02_Ahead : ConOK Try.prog 34 c_ref02_Ahead := con_ok (ConsOK.cons ok_ref02_Good (ConsOK.nil)) L_ref02_Ahead Ls_ref02_Ahead (B := B_ref02_Ahead) (BodiesOK.nil) Try.func34 rfl fun x y hf h => (run_ref02_Ahead x).trans (eq_ref02_Ahead x y hf h)
noncomputable def L_ref02_Gives : List (Nat × LD) := []
noncomputable def Ls_ref02_Gives : List (Nat × List (Nat × LD)) := []
noncomputable def B_ref02_Gives : Bodies := []
theorem run_ref02_Gives (x : denL [(.st .key), (.st .key)]) : run [(16, c_ref02_Good)] L_ref02_Gives Ls_ref02_Gives B_ref02_Gives Try.f17 [(.st .key), (.st .key)] [.bool] x = g_ref02_Gives x := by kernel_rfl
theorem ok_ref02_Gives : ConOK Try.prog 17 c_ref02_Gives := con_ok (ConsOK.cons ok_ref02_Good (ConsOK.nil)) L_ref02_Gives Ls_ref02_Gives (B := B_ref02_Gives) (BodiesOK.nil) Try.func17 rfl fun x y hf h => (run_ref02_Gives x).trans (eq_ref02_Gives x y hf h)
noncomputable def L_key_Ahead : List (Nat × LD) := []
noncomputable def Ls_key_Ahead : List (Nat × List (Nat × LD)) := []
noncomputable def B_key_Ahead : Bodies := []
theorem run_key_Ahead (x : denL [(.st .key), .i]) : run [(52, c_key_Good)] L_key_Ahead Ls_key_Ahead B_key_Ahead Try.f56 [(.st .key), .i] [(.st .key), .i] x = g_key_Ahead x := by kernel_rfl
theorem ok_key_Ahead : ConOK Try.prog 56 c_key_Ahead := con_ok (ConsOK.cons ok_key_Good (ConsOK.nil)) L_key_Ahead Ls_key_Ahead (B := B_key_Ahead) (BodiesOK.nil) Try.func56 rfl fun x y hf h => (run_key_Ahead x).trans (eq_key_Ahead x y hf h)
noncomputable def L_key_Gives : List (Nat × LD) := []
noncomputable def Ls_key_Gives : List (Nat × List (Nat × LD)) := []
noncomputable def B_key_Gives : Bodies := []
theorem run_key_Gives (x : denL [(.st .key), (.st .key)]) : run [(52, c_key_Good)] L_key_Gives Ls_key_Gives B_key_Gives Try.f57 [(.st .key), (.st .key)] [.bool] x = g_key_Gives x := by kernel_rfl
theorem ok_key_Gives : ConOK Try.prog 57 c_key_Gives := con_ok (ConsOK.cons ok_key_Good (ConsOK.nil)) L_key_Gives Ls_key_Gives (B := B_key_Gives) (BodiesOK.nil) Try.func57 rfl fun x y hf h => (run_key_Gives x).trans (eq_key_Gives x y hf h)
noncomputable def L_key_Open : List (Nat × LD) := []
noncomputable def Ls_key_Open : List (Nat × List (Nat × LD)) := []
noncomputable def B_key_Open : Bodies := []
theorem run_key_Open (x : denL [(.st .box), (.st .key)]) : run [(52, c_key_Good), (57, c_key_Gives)] L_key_Open Ls_key_Open B_key_Open Try.f32 [(.st .box), (.st .key)] [(.st .key), .i] x = g_key_Open x := by kernel_rfl
theorem ok_key_Open : ConOK Try.prog 32 c_key_Open := con_ok (ConsOK.cons ok_key_Good (ConsOK.cons ok_key_Gives (ConsOK.nil))) L_key_Open Ls_key_Open (B := B_key_Open) (BodiesOK.nil) Try.func32 rfl fun x y hf h => (run_key_Open x).trans (eq_key_Open x y hf h)
noncomputable def L_key_Seal : List (Nat × LD) := []
noncomputable def Ls_key_Seal : List (Nat × List (Nat × LD)) := []
noncomputable def B_key_Seal : Bodies := []
theorem run_key_Seal (x : denL [(.st .key), (.st .key)]) : run [(52, c_key_Good)] L_key_Seal Ls_key_Seal B_key_Seal Try.f28 [(.st .key), (.st .key)] [(.st .box), .i] x = g_key_Seal x := by kernel_rfl
theorem ok_key_Seal : ConOK Try.prog 28 c_key_Seal := con_ok (ConsOK.cons ok_key_Good (ConsOK.nil)) L_key_Seal Ls_key_Seal (B := B_key_Seal) (BodiesOK.nil) Try.func28 rfl fun x y hf h => (run_key_Seal x).trans (eq_key_Seal x y hf h)
noncomputable def L_ratchet_Check : List (Nat × LD) := [(3, ⟨⟨[(3, .mp 1), (7, .hole (.arr 21 (.st .key))), (8, .hole .i)], [], [(1, .i, .i)]⟩, [(.ret, ⟨[(2, .hole .i)], [], []⟩), (.exit 0, ⟨[], [], []⟩)], 11, []⟩)]
noncomputable def Ls_ratchet_Check : List (Nat × List (Nat × LD)) := []
noncomputable def B_ratchet_Check : Bodies := []
theorem run_ratchet_Check (x : denL [(.arr 21 (.st .key))]) : run [(52, c_key_Good)] L_ratchet_Check Ls_ratchet_Check B_ratchet_Check Try.f48 [(.arr 21 (.st .key))] [.i] x = g_ratchet_Check x := by kernel_rfl
theorem ok_ratchet_Check : ConOK Try.prog 48 c_ratchet_Check := con_ok (ConsOK.cons ok_key_Good (ConsOK.nil)) L_ratchet_Check Ls_ratchet_Check (B := B_ratchet_Check) (BodiesOK.nil) Try.func48 rfl fun x y hf h => (run_ratchet_Check x).trans (eq_ratchet_Check x y hf h)
noncomputable def L_ref10_Check : List (Nat × LD) := [(7, ⟨⟨[(1, .ptr 0 []), (3, .hole .i), (4, .hole .i)], [(0, (.arr 21 (.st .key)), .hole (.arr 21 (.st .key)))], []⟩, [(.ret, ⟨[(2, .hole .i)], [], []⟩), (.exit 2, ⟨[(1, .ptr 0 []), (3, .hole .i)], [(0, (.arr 21 (.st .key)), .hole (.arr 21 (.st .key)))], []⟩)], 10, []⟩), (2, ⟨⟨[(1, .ptr 0 []), (3, .hole .i)], [(0, (.arr 21 (.st .key)), .hole (.arr 21 (.st .key)))], []⟩, [(.ret, ⟨[(2, .hole .i)], [], []⟩), (.exit 0, ⟨[], [], []⟩)], 20, []⟩)]
noncomputable def Ls_ref10_Check : List (Nat × List (Nat × LD)) := []
noncomputable def B_ref10_Check : Bodies := []
theorem run_ref10_Check (x : denL [(.arr 21 (.st .key))]) : run [(16, c_ref02_Good)] L_ref10_Check Ls_ref10_Check B_ref10_Check Try.f53 [(.arr 21 (.st .key))] [.i] x = g_ref10_Check x := by kernel_rfl
theorem ok_ref10_Check : ConOK Try.prog 53 c_ref10_Check := con_ok (ConsOK.cons ok_ref02_Good (ConsOK.nil)) L_ref10_Check Ls_ref10_Check (B := B_ref10_Check) (BodiesOK.nil) Try.func53 rfl fun x y hf h => (run_ref10_Check x).trans (eq_ref10_Check x y hf h)
noncomputable def L_ratchet_LeafAt : List (Nat × LD) := []
noncomputable def Ls_ratchet_LeafAt : List (Nat × List (Nat × LD)) := []
noncomputable def B_ratchet_LeafAt : Bodies := []
theorem run_ratchet_LeafAt (x : denL [(.st .entry), .i]) : run [(56, c_key_Ahead)] L_ratchet_LeafAt Ls_ratchet_LeafAt B_ratchet_LeafAt Try.f74 [(.st .entry), .i] [(.st .key), .i] x = g_ratchet_LeafAt x := by kernel_rfl
theorem ok_ratchet_LeafAt : ConOK Try.prog 74 c_ratchet_LeafAt := con_ok (ConsOK.cons ok_key_Ahead (ConsOK.nil)) L_ratchet_LeafAt Ls_ratchet_LeafAt (B := B_ratchet_LeafAt) (BodiesOK.nil) Try.func74 rfl fun x y hf h => (run_ratchet_LeafAt x).trans (eq_ratchet_LeafAt x y hf h)
noncomputable def L_ref10_LeafAt : List (Nat × LD) := []
noncomputable def Ls_ref10_LeafAt : List (Nat × List (Nat × LD)) := []
noncomputable def B_ref10_LeafAt : Bodies := []
theorem run_ref10_LeafAt (x : denL [(.st .entry), .i]) : run [] L_ref10_LeafAt Ls_ref10_LeafAt B_ref10_LeafAt Try.f39 [(.st .entry), .i] [(.st .key), .i] x = g_ref10_LeafAt x := by kernel_rfl
theorem ok_ref10_LeafAt : ConOK Try.prog 39 c_ref10_LeafAt := con_ok (ConsOK.nil) L_ref10_LeafAt Ls_ref10_LeafAt (B := B_ref10_LeafAt) (BodiesOK.nil) Try.func39 rfl fun x y hf h => (run_ref10_LeafAt x).trans (eq_ref10_LeafAt x y hf h)
noncomputable def L_ratchet_Follow : List (Nat × LD) := [(3, ⟨⟨[(1, .hole .i), (2, .ptr 0 []), (4, .ptr 1 []), (6, .hole .i), (11, .hole (.arr 3 (.st .key))), (12, .hole .i)], [(0, (.arr 3 (.st .key)), .hole (.arr 3 (.st .key))), (1, (.arr 3 (.st .key)), .hole (.arr 3 (.st .key)))], []⟩, [(.exit 0, ⟨[(2, .ptr 0 []), (4, .ptr 1 []), (6, .hole .i)], [(0, (.arr 3 (.st .key)), .hole (.arr 3 (.st .key))), (1, (.arr 3 (.st .key)), .hole (.arr 3 (.st .key)))], []⟩)], 12, []⟩)]
noncomputable def Ls_ratchet_Follow : List (Nat × List (Nat × LD)) := []
noncomputable def B_ratchet_Follow : Bodies := []
theorem run_ratchet_Follow (x : denL [(.arr 3 (.st .key)), .i]) : run [(56, c_key_Ahead)] L_ratchet_Follow Ls_ratchet_Follow B_ratchet_Follow Try.f31 [(.arr 3 (.st .key)), .i] [(.arr 3 (.st .key)), .i] x = g_ratchet_Follow x := by kernel_rfl
theorem ok_ratchet_Follow : ConOK Try.prog 31 c_ratchet_Follow := con_ok (ConsOK.cons ok_key_Ahead (ConsOK.nil)) L_ratchet_Follow Ls_ratchet_Follow (B := B_ratchet_Follow) (BodiesOK.nil) Try.func31 rfl fun x y hf h => (run_ratchet_Follow x).trans (eq_ratchet_Follow x y hf h)
noncomputable def L_ref01_In : List (Nat × LD) := [(4, ⟨⟨[(0, .hole (.int .u32)), (1, .hole .i), (5, .hole .i)], [], []⟩, [(.exit 0, ⟨[(0, .hole (.int .u32))], [], []⟩)], 10, []⟩)]
noncomputable def Ls_ref01_In : List (Nat × List (Nat × LD)) := []
noncomputable def B_ref01_In : Bodies := []
theorem run_ref01_In (x : denL [(.int .u32), .i]) : run [] L_ref01_In Ls_ref01_In B_ref01_In Try.f66 [(.int .u32), .i] [.bool] x = g_ref01_In x := by kernel_rfl
theorem ok_ref01_In : ConOK Try.prog 66 c_ref01_In := con_ok (ConsOK.nil) L_ref01_In Ls_ref01_In (B := B_ref01_In) (BodiesOK.nil) Try.func66 rfl fun x y hf h => (run_ref01_In x).trans (eq_ref01_In x y hf h)
noncomputable def L_ref10_count : List (Nat × LD) := [(3, ⟨⟨[(0, .hole (.int .u32)), (3, .hole .i), (4, .hole .i)], [], []⟩, [(.exit 0, ⟨[(3, .hole .i)], [], []⟩)], 10, []⟩)]
noncomputable def Ls_ref10_count : List (Nat × List (Nat × LD)) := []
noncomputable def B_ref10_count : Bodies := []
theorem run_ref10_count (x : denL [(.int .u32)]) : run [(66, c_ref01_In)] L_ref10_count Ls_ref10_count B_ref10_count Try.f89 [(.int .u32)] [.i] x = g_ref10_count x := by kernel_rfl
theorem ok_ref10_count : ConOK Try.prog 89 c_ref10_count := con_ok (ConsOK.cons ok_ref01_In (ConsOK.nil)) L_ref10_count Ls_ref10_count (B := B_ref10_count) (BodiesOK.nil) Try.func89 rfl fun x y hf h => (run_ref10_count x).trans (eq_ref10_count x y hf h)
noncomputable def L_ref10_Turn : List (Nat × LD) := [(4, ⟨⟨[(1, .hole (.int .u32)), (2, .hole .i), (3, .ptr 0 []), (6, .ptr 1 []), (9, .hole .i)], [(0, (.arr 21 (.st .key)), .hole (.arr 21 (.st .key))), (1, (.arr 21 (.st .key)), .hole (.arr 21 (.st .key)))], []⟩, [(.ret, ⟨[(6, .ptr 1 []), (7, .hole .i), (8, .hole .i)], [(1, (.arr 21 (.st .key)), .hole (.arr 21 (.st .key)))], []⟩), (.exit 0, ⟨[(1, .hole (.int .u32)), (2, .hole .i), (3, .ptr 0 []), (6, .ptr 1 [])], [(0, (.arr 21 (.st .key)), .hole (.arr 21 (.st .key))), (1, (.arr 21 (.st .key)), .hole (.arr 21 (.st .key)))], []⟩)], 10, []⟩), (12, ⟨⟨[(1, .hole (.int .u32)), (2, .hole .i), (3, .ptr 0 []), (6, .ptr 1 []), (10, .hole .i), (11, .hole .i)], [(0, (.arr 21 (.st .key)), .hole (.arr 21 (.st .key))), (1, (.arr 21 (.st .key)), .hole (.arr 21 (.st .key)))], []⟩, [(.ret, ⟨[(6, .ptr 1 []), (7, .hole .i), (8, .hole .i)], [(1, (.arr 21 (.st .key)), .hole (.arr 21 (.st .key)))], []⟩), (.exit 2, ⟨[(1, .hole (.int .u32)), (2, .hole .i), (3, .ptr 0 []), (6, .ptr 1 [])], [(0, (.arr 21 (.st .key)), .hole (.arr 21 (.st .key))), (1, (.arr 21 (.st .key)), .hole (.arr 21 (.st .key)))], []⟩)], 10, []⟩), (17, ⟨⟨[(1, .hole (.int .u32)), (2, .hole .i), (3, .ptr 0 []), (6, .ptr 1 []), (12, .hole .i)], [(0, (.arr 21 (.st .key)), .hole (.arr 21 (.st .key))), (1, (.arr 21 (.st .key)), .hole (.arr 21 (.st .key)))], []⟩, [(.ret, ⟨[(6, .ptr 1 []), (7, .hole .i), (8, .hole .i)], [(1, (.arr 21 (.st .key)), .hole (.arr 21 (.st .key)))], []⟩), (.exit 4, ⟨[(2, .hole .i), (3, .ptr 0 []), (6, .ptr 1 [])], [(0, (.arr 21 (.st .key)), .hole (.arr 21 (.st .key))), (1, (.arr 21 (.st .key)), .hole (.arr 21 (.st .key)))], []⟩)], 11, []⟩)]
noncomputable def Ls_ref10_Turn : List (Nat × List (Nat × LD)) := []
noncomputable def B_ref10_Turn : Bodies := []
theorem run_ref10_Turn (x : denL [(.arr 21 (.st .key)), (.int .u32), .i]) : run [(53, c_ref10_Check), (66, c_ref01_In), (89, c_ref10_count), (34, c_ref02_Ahead)] L_ref10_Turn Ls_ref10_Turn B_ref10_Turn Try.f63 [(.arr 21 (.st .key)), (.int .u32), .i] [(.arr 21 (.st .key)), .i, .i] x = g_ref10_Turn x := by kernel_rfl
theorem ok_ref10_Turn : ConOK Try.prog 63 c_ref10_Turn := con_ok (ConsOK.cons ok_ref10_Check (ConsOK.cons ok_ref01_In (ConsOK.cons ok_ref10_count (ConsOK.cons ok_ref02_Ahead (ConsOK.nil))))) L_ref10_Turn Ls_ref10_Turn (B := B_ref10_Turn) (BodiesOK.nil) Try.func63 rfl fun x y hf h => (run_ref10_Turn x).trans (eq_ref10_Turn x y hf h)
noncomputable def L_ref01_Node : List (Nat × LD) := []
noncomputable def Ls_ref01_Node : List (Nat × List (Nat × LD)) := []
noncomputable def B_ref01_Node : Bodies := []
theorem run_ref01_Node (x : denL [.i]) : run [] L_ref01_Node Ls_ref01_Node B_ref01_Node Try.f70 [.i] [.bool] x = g_ref01_Node x := by kernel_rfl
theorem ok_ref01_Node : ConOK Try.prog 70 c_ref01_Node := con_ok (ConsOK.nil) L_ref01_Node Ls_ref01_Node (B := B_ref01_Node) (BodiesOK.nil) Try.func70 rfl fun x y hf h => (run_ref01_Node x).trans (eq_ref01_Node x y hf h)
noncomputable def L_ref01_Child : List (Nat × LD) := []
noncomputable def Ls_ref01_Child : List (Nat × List (Nat × LD)) := []
noncomputable def B_ref01_Child : Bodies := []
theorem run_ref01_Child (x : denL [.i, .i]) : run [] L_ref01_Child Ls_ref01_Child B_ref01_Child Try.f67 [.i, .i] [.i] x = g_ref01_Child x := by kernel_rfl
theorem ok_ref01_Child : ConOK Try.prog 67 c_ref01_Child := con_ok (ConsOK.nil) L_ref01_Child Ls_ref01_Child (B := B_ref01_Child) (BodiesOK.nil) Try.func67 rfl fun x y hf h => (run_ref01_Child x).trans (eq_ref01_Child x y hf h)
noncomputable def L_ref01_Parent : List (Nat × LD) := [(7, ⟨⟨[(0, .hole .i), (3, .hole .i), (4, .hole .i)], [], []⟩, [(.ret, ⟨[(2, .hole .i)], [], []⟩), (.exit 2, ⟨[(0, .hole .i), (3, .hole .i)], [], []⟩)], 10, []⟩), (4, ⟨⟨[(0, .hole .i), (3, .hole .i)], [], []⟩, [(.ret, ⟨[(2, .hole .i)], [], []⟩), (.exit 0, ⟨[], [], []⟩)], 20, []⟩)]
noncomputable def Ls_ref01_Parent : List (Nat × List (Nat × LD)) := []
noncomputable def B_ref01_Parent : Bodies := []
theorem run_ref01_Parent (x : denL [.i]) : run [(67, c_ref01_Child)] L_ref01_Parent Ls_ref01_Parent B_ref01_Parent Try.f45 [.i] [.i] x = g_ref01_Parent x := by kernel_rfl
theorem ok_ref01_Parent : ConOK Try.prog 45 c_ref01_Parent := con_ok (ConsOK.cons ok_ref01_Child (ConsOK.nil)) L_ref01_Parent Ls_ref01_Parent (B := B_ref01_Parent) (BodiesOK.nil) Try.func45 rfl fun x y hf h => (run_ref01_Parent x).trans (eq_ref01_Parent x y hf h)
noncomputable def L_ref01_Leaf : List (Nat × LD) := []
noncomputable def Ls_ref01_Leaf : List (Nat × List (Nat × LD)) := []
noncomputable def B_ref01_Leaf : Bodies := []
theorem run_ref01_Leaf (x : denL [.i]) : run [] L_ref01_Leaf Ls_ref01_Leaf B_ref01_Leaf Try.f44 [.i] [.i] x = g_ref01_Leaf x := by kernel_rfl
theorem ok_ref01_Leaf : ConOK Try.prog 44 c_ref01_Leaf := con_ok (ConsOK.nil) L_ref01_Leaf Ls_ref01_Leaf (B := B_ref01_Leaf) (BodiesOK.nil) Try.func44 rfl fun x y hf h => (run_ref01_Leaf x).trans (eq_ref01_Leaf x y hf h)
noncomputable def L_ref01_Path : List (Nat × LD) := [(6, ⟨⟨[(2, .ptr 0 []), (4, .ptr 1 []), (5, .hole .i), (6, .hole .i)], [(0, (.arr 3 .i), .hole (.arr 3 .i)), (1, (.arr 3 .i), .hole (.arr 3 .i))], []⟩, [(.exit 0, ⟨[(2, .ptr 0 []), (4, .ptr 1 [])], [(0, (.arr 3 .i), .hole (.arr 3 .i)), (1, (.arr 3 .i), .hole (.arr 3 .i))], []⟩)], 10, []⟩)]
noncomputable def Ls_ref01_Path : List (Nat × List (Nat × LD)) := []
noncomputable def B_ref01_Path : Bodies := []
theorem run_ref01_Path (x : denL [.i]) : run [(44, c_ref01_Leaf), (45, c_ref01_Parent)] L_ref01_Path Ls_ref01_Path B_ref01_Path Try.f20 [.i] [(.arr 3 .i), .bool] x = g_ref01_Path x := by kernel_rfl
theorem ok_ref01_Path : ConOK Try.prog 20 c_ref01_Path := con_ok (ConsOK.cons ok_ref01_Leaf (ConsOK.cons ok_ref01_Parent (ConsOK.nil))) L_ref01_Path Ls_ref01_Path (B := B_ref01_Path) (BodiesOK.nil) Try.func20 rfl fun x y hf h => (run_ref01_Path x).trans (eq_ref01_Path x y hf h)
noncomputable def L_ref01_Below : List (Nat × LD) := [(3, ⟨⟨[(0, .hole .i), (1, .hole .i)], [], []⟩, [(.exit 0, ⟨[(0, .hole .i), (1, .hole .i)], [], []⟩)], 10, []⟩)]
noncomputable def Ls_ref01_Below : List (Nat × List (Nat × LD)) := []
noncomputable def B_ref01_Below : Bodies := []
theorem run_ref01_Below (x : denL [.i, .i]) : run [(70, c_ref01_Node), (45, c_ref01_Parent)] L_ref01_Below Ls_ref01_Below B_ref01_Below Try.f90 [.i, .i] [.bool] x = g_ref01_Below x := by kernel_rfl
theorem ok_ref01_Below : ConOK Try.prog 90 c_ref01_Below := con_ok (ConsOK.cons ok_ref01_Node (ConsOK.cons ok_ref01_Parent (ConsOK.nil))) L_ref01_Below Ls_ref01_Below (B := B_ref01_Below) (BodiesOK.nil) Try.func90 rfl fun x y hf h => (run_ref01_Below x).trans (eq_ref01_Below x y hf h)
noncomputable def L_shape_first : List (Nat × LD) := []
noncomputable def Ls_shape_first : List (Nat × List (Nat × LD)) := []
noncomputable def B_shape_first : Bodies := []
theorem run_shape_first (x : denL [.i]) : run [] L_shape_first Ls_shape_first B_shape_first Try.f98 [.i] [.i] x = g_shape_first x := by kernel_rfl
theorem ok_shape_first : ConOK Try.prog 98 c_shape_first := con_ok (ConsOK.nil) L_shape_first Ls_shape_first (B := B_shape_first) (BodiesOK.nil) Try.func98 rfl fun x y hf h => (run_shape_first x).trans (eq_shape_first x y hf h)
noncomputable def L_shape_Level : List (Nat × LD) := [(5, ⟨⟨[(0, .hole .i), (3, .hole .i)], [], []⟩, [(.ret, ⟨[(2, .hole .i)], [], []⟩)], 10, []⟩)]
noncomputable def Ls_shape_Level : List (Nat × List (Nat × LD)) := []
noncomputable def B_shape_Level : Bodies := []
theorem run_shape_Level (x : denL [.i]) : run [(98, c_shape_first)] L_shape_Level Ls_shape_Level B_shape_Level Try.f103 [.i] [.i] x = g_shape_Level x := by kernel_rfl
theorem ok_shape_Level : ConOK Try.prog 103 c_shape_Level := con_ok (ConsOK.cons ok_shape_first (ConsOK.nil)) L_shape_Level Ls_shape_Level (B := B_shape_Level) (BodiesOK.nil) Try.func103 rfl fun x y hf h => (run_shape_Level x).trans (eq_shape_Level x y hf h)
noncomputable def L_shape_span : List (Nat × LD) := []
noncomputable def Ls_shape_span : List (Nat × List (Nat × LD)) := []
noncomputable def B_shape_span : Bodies := []
theorem run_shape_span (x : denL [.i]) : run [(103, c_shape_Level), (98, c_shape_first)] L_shape_span Ls_shape_span B_shape_span Try.f106 [.i] [.i, .i] x = g_shape_span x := by kernel_rfl
theorem ok_shape_span : ConOK Try.prog 106 c_shape_span := con_ok (ConsOK.cons ok_shape_Level (ConsOK.cons ok_shape_first (ConsOK.nil))) L_shape_span Ls_shape_span (B := B_shape_span) (BodiesOK.nil) Try.func106 rfl fun x y hf h => (run_shape_span x).trans (eq_shape_span x y hf h)
noncomputable def L_shape_Mask : List (Nat × LD) := []
noncomputable def Ls_shape_Mask : List (Nat × List (Nat × LD)) := []
noncomputable def B_shape_Mask : Bodies := []
theorem run_shape_Mask (x : denL [.i]) : run [(103, c_shape_Level), (106, c_shape_span)] L_shape_Mask Ls_shape_Mask B_shape_Mask Try.f104 [.i] [(.int .u64)] x = g_shape_Mask x := by kernel_rfl
theorem ok_shape_Mask : ConOK Try.prog 104 c_shape_Mask := con_ok (ConsOK.cons ok_shape_Level (ConsOK.cons ok_shape_span (ConsOK.nil))) L_shape_Mask Ls_shape_Mask (B := B_shape_Mask) (BodiesOK.nil) Try.func104 rfl fun x y hf h => (run_shape_Mask x).trans (eq_shape_Mask x y hf h)
noncomputable def L_shape_Below : List (Nat × LD) := []
noncomputable def Ls_shape_Below : List (Nat × List (Nat × LD)) := []
noncomputable def B_shape_Below : Bodies := []
theorem run_shape_Below (x : denL [.i, .i]) : run [(103, c_shape_Level), (104, c_shape_Mask)] L_shape_Below Ls_shape_Below B_shape_Below Try.f99 [.i, .i] [.bool] x = g_shape_Below x := by kernel_rfl
theorem ok_shape_Below : ConOK Try.prog 99 c_shape_Below := con_ok (ConsOK.cons ok_shape_Level (ConsOK.cons ok_shape_Mask (ConsOK.nil))) L_shape_Below Ls_shape_Below (B := B_shape_Below) (BodiesOK.nil) Try.func99 rfl fun x y hf h => (run_shape_Below x).trans (eq_shape_Below x y hf h)
noncomputable def L_shape_Leaf : List (Nat × LD) := []
noncomputable def Ls_shape_Leaf : List (Nat × List (Nat × LD)) := []
noncomputable def B_shape_Leaf : Bodies := []
theorem run_shape_Leaf (x : denL [.i]) : run [] L_shape_Leaf Ls_shape_Leaf B_shape_Leaf Try.f97 [.i] [.i] x = g_shape_Leaf x := by kernel_rfl
theorem ok_shape_Leaf : ConOK Try.prog 97 c_shape_Leaf := con_ok (ConsOK.nil) L_shape_Leaf Ls_shape_Leaf (B := B_shape_Leaf) (BodiesOK.nil) Try.func97 rfl fun x y hf h => (run_shape_Leaf x).trans (eq_shape_Leaf x y hf h)
noncomputable def L_shape_Path : List (Nat × LD) := [(5, ⟨⟨[(0, .hole .i), (2, .ptr 0 []), (4, .ptr 1 []), (11, .hole .i)], [(0, (.arr 3 .i), .hole (.arr 3 .i)), (1, (.arr 3 .i), .hole (.arr 3 .i))], []⟩, [(.exit 0, ⟨[(2, .ptr 0 []), (4, .ptr 1 [])], [(0, (.arr 3 .i), .hole (.arr 3 .i)), (1, (.arr 3 .i), .hole (.arr 3 .i))], []⟩)], 10, []⟩)]
noncomputable def Ls_shape_Path : List (Nat × List (Nat × LD)) := []
noncomputable def B_shape_Path : Bodies := []
theorem run_shape_Path (x : denL [.i]) : run [(97, c_shape_Leaf), (98, c_shape_first)] L_shape_Path Ls_shape_Path B_shape_Path Try.f75 [.i] [(.arr 3 .i), .bool] x = g_shape_Path x := by kernel_rfl
theorem ok_shape_Path : ConOK Try.prog 75 c_shape_Path := con_ok (ConsOK.cons ok_shape_Leaf (ConsOK.cons ok_shape_first (ConsOK.nil))) L_shape_Path Ls_shape_Path (B := B_shape_Path) (BodiesOK.nil) Try.func75 rfl fun x y hf h => (run_shape_Path x).trans (eq_shape_Path x y hf h)
noncomputable def L_roster_right : List (Nat × LD) := []
noncomputable def Ls_roster_right : List (Nat × List (Nat × LD)) := []
noncomputable def B_roster_right : Bodies := []
theorem run_roster_right (x : denL [(.st .entry)]) : run [] L_roster_right Ls_roster_right B_roster_right Try.f72 [(.st .entry)] [.bool] x = g_roster_right x := by kernel_rfl
theorem ok_roster_right : ConOK Try.prog 72 c_roster_right := con_ok (ConsOK.nil) L_roster_right Ls_roster_right (B := B_roster_right) (BodiesOK.nil) Try.func72 rfl fun x y hf h => (run_roster_right x).trans (eq_roster_right x y hf h)
noncomputable def L_roster_Check : List (Nat × LD) := [(3, ⟨⟨[(3, .mp 1), (4, .mp 2), (9, .hole (.arr 64 (.st .entry))), (10, .hole .i)], [], [(1, .i, .i), (2, .i, .i)]⟩, [(.ret, ⟨[(2, .hole .i)], [], []⟩), (.exit 0, ⟨[], [], []⟩)], 11, []⟩)]
noncomputable def Ls_roster_Check : List (Nat × List (Nat × LD)) := []
noncomputable def B_roster_Check : Bodies := []
theorem run_roster_Check (x : denL [(.arr 64 (.st .entry))]) : run [(72, c_roster_right)] L_roster_Check Ls_roster_Check B_roster_Check Try.f49 [(.arr 64 (.st .entry))] [.i] x = g_roster_Check x := by kernel_rfl
theorem ok_roster_Check : ConOK Try.prog 49 c_roster_Check := con_ok (ConsOK.cons ok_roster_right (ConsOK.nil)) L_roster_Check Ls_roster_Check (B := B_roster_Check) (BodiesOK.nil) Try.func49 rfl fun x y hf h => (run_roster_Check x).trans (eq_roster_Check x y hf h)
noncomputable def L_roster_Find : List (Nat × LD) := []
noncomputable def Ls_roster_Find : List (Nat × List (Nat × LD)) := [(95, [(2, ⟨⟨[(0, .asl 0 []), (1, .fn 96 [1]), (7, .hole .i), (8, .hole .i)], [(0, (.arr 64 (.st .entry)), .hole (.arr 64 (.st .entry))), (1, .i, .hole .i)], []⟩, [(.ret, ⟨[(4, .hole .i)], [(0, (.arr 64 (.st .entry)), .hole (.arr 64 (.st .entry))), (1, .i, .hole .i)], []⟩), (.exit 0, ⟨[], [(0, (.arr 64 (.st .entry)), .hole (.arr 64 (.st .entry))), (1, .i, .hole .i)], []⟩)], 10, []⟩)])]
noncomputable def B_roster_Find : Bodies := [bodyLine 96 Try.f96, bodyLine 95 Try.f95]
theorem run_roster_Find (x : denL [(.arr 64 (.st .entry)), .i]) : run [] L_roster_Find Ls_roster_Find B_roster_Find Try.f73 [(.arr 64 (.st .entry)), .i] [.i] x = g_roster_Find x := by kernel_rfl
theorem ok_roster_Find : ConOK Try.prog 73 c_roster_Find := con_ok (ConsOK.nil) L_roster_Find Ls_roster_Find (B := B_roster_Find) (BodiesOK.cons Try.func96 rfl (BodiesOK.cons Try.func95 rfl (BodiesOK.nil))) Try.func73 rfl fun x y hf h => (run_roster_Find x).trans (eq_roster_Find x y hf h)
noncomputable def L_ref09_Right : List (Nat × LD) := []
noncomputable def Ls_ref09_Right : List (Nat × List (Nat × LD)) := []
noncomputable def B_ref09_Right : Bodies := []
theorem run_ref09_Right (x : denL [(.st .entry)]) : run [] L_ref09_Right Ls_ref09_Right B_ref09_Right Try.f76 [(.st .entry)] [.bool] x = g_ref09_Right x := by kernel_rfl
theorem ok_ref09_Right : ConOK Try.prog 76 c_ref09_Right := con_ok (ConsOK.nil) L_ref09_Right Ls_ref09_Right (B := B_ref09_Right) (BodiesOK.nil) Try.func76 rfl fun x y hf h => (run_ref09_Right x).trans (eq_ref09_Right x y hf h)
noncomputable def L_ref09_Check : List (Nat × LD) := [(8, ⟨⟨[(1, .ptr 0 []), (3, .hole .i), (4, .hole .i)], [(0, (.arr 64 (.st .entry)), .hole (.arr 64 (.st .entry)))], []⟩, [(.ret, ⟨[(2, .hole .i)], [], []⟩), (.exit 2, ⟨[(1, .ptr 0 []), (3, .hole .i)], [(0, (.arr 64 (.st .entry)), .hole (.arr 64 (.st .entry)))], []⟩)], 10, []⟩), (2, ⟨⟨[(1, .ptr 0 []), (3, .hole .i)], [(0, (.arr 64 (.st .entry)), .hole (.arr 64 (.st .entry)))], []⟩, [(.ret, ⟨[(2, .hole .i)], [], []⟩), (.exit 0, ⟨[], [], []⟩)], 20, []⟩)]
noncomputable def Ls_ref09_Check : List (Nat × List (Nat × LD)) := []
noncomputable def B_ref09_Check : Bodies := []
theorem run_ref09_Check (x : denL [(.arr 64 (.st .entry))]) : run [(76, c_ref09_Right)] L_ref09_Check Ls_ref09_Check B_ref09_Check Try.f54 [(.arr 64 (.st .entry))] [.i] x = g_ref09_Check x := by kernel_rfl
theorem ok_ref09_Check : ConOK Try.prog 54 c_ref09_Check := con_ok (ConsOK.cons ok_ref09_Right (ConsOK.nil)) L_ref09_Check Ls_ref09_Check (B := B_ref09_Check) (BodiesOK.nil) Try.func54 rfl fun x y hf h => (run_ref09_Check x).trans (eq_ref09_Check x y hf h)
noncomputable def L_ref09_Find : List (Nat × LD) := [(2, ⟨⟨[(1, .hole .i), (2, .ptr 0 []), (5, .hole .i)], [(0, (.arr 64 (.st .entry)), .hole (.arr 64 (.st .entry)))], []⟩, [(.ret, ⟨[(4, .hole .i)], [], []⟩), (.exit 0, ⟨[], [], []⟩)], 10, []⟩)]
noncomputable def Ls_ref09_Find : List (Nat × List (Nat × LD)) := []
noncomputable def B_ref09_Find : Bodies := []
theorem run_ref09_Find (x : denL [(.arr 64 (.st .entry)), .i]) : run [] L_ref09_Find Ls_ref09_Find B_ref09_Find Try.f38 [(.arr 64 (.st .entry)), .i] [.i] x = g_ref09_Find x := by kernel_rfl
theorem ok_ref09_Find : ConOK Try.prog 38 c_ref09_Find := con_ok (ConsOK.nil) L_ref09_Find Ls_ref09_Find (B := B_ref09_Find) (BodiesOK.nil) Try.func38 rfl fun x y hf h => (run_ref09_Find x).trans (eq_ref09_Find x y hf h)
noncomputable def L_ref11_Start : List (Nat × LD) := [(3, ⟨⟨[(0, .ptr 0 []), (1, .ptr 1 []), (2, .hole .i)], [(0, (.st .tree), .hole (.st .tree)), (1, (.st .tree), .hole (.st .tree))], []⟩, [(.exit 0, ⟨[(0, .ptr 0 []), (1, .ptr 1 [])], [(0, (.st .tree), .hole (.st .tree)), (1, (.st .tree), .hole (.st .tree))], []⟩)], 10, []⟩)]
noncomputable def Ls_ref11_Start : List (Nat × List (Nat × LD)) := []
noncomputable def B_ref11_Start : Bodies := []
theorem run_ref11_Start (x : denL []) : run [] L_ref11_Start Ls_ref11_Start B_ref11_Start Try.f47 [] [(.st .tree)] x = g_ref11_Start x := by kernel_rfl
theorem ok_ref11_Start : ConOK Try.prog 47 c_ref11_Start := con_ok (ConsOK.nil) L_ref11_Start Ls_ref11_Start (B := B_ref11_Start) (BodiesOK.nil) Try.func47 rfl fun x y hf h => (run_ref11_Start x).trans (eq_ref11_Start x y hf h)
noncomputable def L_ref11_Check : List (Nat × LD) := [(4, ⟨⟨[(1, .ptr 0 []), (3, .hole .i)], [(0, (.st .tree), .hole (.st .tree))], []⟩, [(.ret, ⟨[(2, .hole .i)], [], []⟩), (.exit 0, ⟨[(1, .ptr 0 [])], [(0, (.st .tree), .hole (.st .tree))], []⟩)], 10, []⟩), (14, ⟨⟨[(1, .ptr 0 []), (4, .hole .i), (5, .hole .i)], [(0, (.st .tree), .hole (.st .tree))], []⟩, [(.ret, ⟨[(2, .hole .i)], [], []⟩), (.exit 4, ⟨[(1, .ptr 0 []), (4, .hole .i)], [(0, (.st .tree), .hole (.st .tree))], []⟩)], 10, []⟩), (9, ⟨⟨[(1, .ptr 0 []), (4, .hole .i)], [(0, (.st .tree), .hole (.st .tree))], []⟩, [(.ret, ⟨[(2, .hole .i)], [], []⟩), (.exit 2, ⟨[], [], []⟩)], 20, []⟩)]
noncomputable def Ls_ref11_Check : List (Nat × List (Nat × LD)) := []
noncomputable def B_ref11_Check : Bodies := []
theorem run_ref11_Check (x : denL [(.st .tree)]) : run [(53, c_ref10_Check), (54, c_ref09_Check)] L_ref11_Check Ls_ref11_Check B_ref11_Check Try.f29 [(.st .tree)] [.i] x = g_ref11_Check x := by kernel_rfl
theorem ok_ref11_Check : ConOK Try.prog 29 c_ref11_Check := con_ok (ConsOK.cons ok_ref10_Check (ConsOK.cons ok_ref09_Check (ConsOK.nil))) L_ref11_Check Ls_ref11_Check (B := B_ref11_Check) (BodiesOK.nil) Try.func29 rfl fun x y hf h => (run_ref11_Check x).trans (eq_ref11_Check x y hf h)
noncomputable def L_ref11_Of : List (Nat × LD) := []
noncomputable def Ls_ref11_Of : List (Nat × List (Nat × LD)) := []
noncomputable def B_ref11_Of : Bodies := []
theorem run_ref11_Of (x : denL [(.st .tree), .i]) : run [(70, c_ref01_Node), (39, c_ref10_LeafAt)] L_ref11_Of Ls_ref11_Of B_ref11_Of Try.f43 [(.st .tree), .i] [(.st .key), .i] x = g_ref11_Of x := by kernel_rfl
theorem ok_ref11_Of : ConOK Try.prog 43 c_ref11_Of := con_ok (ConsOK.cons ok_ref01_Node (ConsOK.cons ok_ref10_LeafAt (ConsOK.nil))) L_ref11_Of Ls_ref11_Of (B := B_ref11_Of) (BodiesOK.nil) Try.func43 rfl fun x y hf h => (run_ref11_Of x).trans (eq_ref11_Of x y hf h)
noncomputable def L_ref11_KeyOf : List (Nat × LD) := []
noncomputable def Ls_ref11_KeyOf : List (Nat × List (Nat × LD)) := []
noncomputable def B_ref11_KeyOf : Bodies := []
theorem run_ref11_KeyOf (x : denL [(.st .tree), .i]) : run [(29, c_ref11_Check), (43, c_ref11_Of)] L_ref11_KeyOf Ls_ref11_KeyOf B_ref11_KeyOf Try.f19 [(.st .tree), .i] [(.st .key), .i] x = g_ref11_KeyOf x := by kernel_rfl
theorem ok_ref11_KeyOf : ConOK Try.prog 19 c_ref11_KeyOf := con_ok (ConsOK.cons ok_ref11_Check (ConsOK.cons ok_ref11_Of (ConsOK.nil))) L_ref11_KeyOf Ls_ref11_KeyOf (B := B_ref11_KeyOf) (BodiesOK.nil) Try.func19 rfl fun x y hf h => (run_ref11_KeyOf x).trans (eq_ref11_KeyOf x y hf h)
noncomputable def L_ref11_PathOf : List (Nat × LD) := [(8, ⟨⟨[(2, .ptr 0 []), (4, .ptr 1 []), (6, .ptr 2 []), (7, .ptr 3 []), (9, .hole .i)], [(0, (.st .tree), .hole (.st .tree)), (1, (.arr 3 (.st .key)), .hole (.arr 3 (.st .key))), (2, (.arr 3 (.st .key)), .hole (.arr 3 (.st .key))), (3, (.arr 3 .i), .hole (.arr 3 .i))], []⟩, [(.exit 0, ⟨[(4, .ptr 1 []), (6, .ptr 2 [])], [(1, (.arr 3 (.st .key)), .hole (.arr 3 (.st .key))), (2, (.arr 3 (.st .key)), .hole (.arr 3 (.st .key)))], []⟩)], 10, []⟩)]
noncomputable def Ls_ref11_PathOf : List (Nat × List (Nat × LD)) := []
noncomputable def B_ref11_PathOf : Bodies := []
theorem run_ref11_PathOf (x : denL [(.st .tree), .i]) : run [(29, c_ref11_Check), (20, c_ref01_Path)] L_ref11_PathOf Ls_ref11_PathOf B_ref11_PathOf Try.f40 [(.st .tree), .i] [(.arr 3 (.st .key)), .i] x = g_ref11_PathOf x := by kernel_rfl
theorem ok_ref11_PathOf : ConOK Try.prog 40 c_ref11_PathOf := con_ok (ConsOK.cons ok_ref11_Check (ConsOK.cons ok_ref01_Path (ConsOK.nil))) L_ref11_PathOf Ls_ref11_PathOf (B := B_ref11_PathOf) (BodiesOK.nil) Try.func40 rfl fun x y hf h => (run_ref11_PathOf x).trans (eq_ref11_PathOf x y hf h)
noncomputable def L_ref11_Below : List (Nat × LD) := [(2, ⟨⟨[(1, .hole .i), (2, .ptr 0 []), (5, .hole .i)], [(0, (.arr 64 (.st .entry)), .hole (.arr 64 (.st .entry)))], []⟩, [(.ret, ⟨[(4, .hole .bool)], [], []⟩), (.exit 0, ⟨[], [], []⟩)], 10, []⟩)]
noncomputable def Ls_ref11_Below : List (Nat × List (Nat × LD)) := []
noncomputable def B_ref11_Below : Bodies := []
theorem run_ref11_Below (x : denL [(.arr 64 (.st .entry)), .i]) : run [(44, c_ref01_Leaf), (90, c_ref01_Below)] L_ref11_Below Ls_ref11_Below B_ref11_Below Try.f68 [(.arr 64 (.st .entry)), .i] [.bool] x = g_ref11_Below x := by kernel_rfl
theorem ok_ref11_Below : ConOK Try.prog 68 c_ref11_Below := con_ok (ConsOK.cons ok_ref01_Leaf (ConsOK.cons ok_ref01_Below (ConsOK.nil))) L_ref11_Below Ls_ref11_Below (B := B_ref11_Below) (BodiesOK.nil) Try.func68 rfl fun x y hf h => (run_ref11_Below x).trans (eq_ref11_Below x y hf h)
noncomputable def L_ref11_Stand : List (Nat × LD) := []
noncomputable def Ls_ref11_Stand : List (Nat × List (Nat × LD)) := []
noncomputable def B_ref11_Stand : Bodies := []
theorem run_ref11_Stand (x : denL [(.st .tree), .i]) : run [(29, c_ref11_Check), (38, c_ref09_Find), (39, c_ref10_LeafAt), (40, c_ref11_PathOf)] L_ref11_Stand Ls_ref11_Stand B_ref11_Stand Try.f15 [(.st .tree), .i] [(.st .member), .i] x = g_ref11_Stand x := by kernel_rfl
theorem ok_ref11_Stand : ConOK Try.prog 15 c_ref11_Stand := con_ok (ConsOK.cons ok_ref11_Check (ConsOK.cons ok_ref09_Find (ConsOK.cons ok_ref10_LeafAt (ConsOK.cons ok_ref11_PathOf (ConsOK.nil))))) L_ref11_Stand Ls_ref11_Stand (B := B_ref11_Stand) (BodiesOK.nil) Try.func15 rfl fun x y hf h => (run_ref11_Stand x).trans (eq_ref11_Stand x y hf h)
noncomputable def L_keytree_Check : List (Nat × LD) := [(7, ⟨⟨[(1, .ptr 0 []), (3, .mp 1), (38, .hole (.arr 21 (.st .key))), (39, .hole .i)], [(0, (.st .tree), .hole (.st .tree))], [(1, .i, .i)]⟩, [(.ret, ⟨[(2, .hole .i)], [], []⟩), (.exit 0, ⟨[(1, .ptr 0 []), (3, .mp 1)], [(0, (.st .tree), .hole (.st .tree))], [(1, .i, .i)]⟩)], 11, []⟩), (14, ⟨⟨[(1, .ptr 0 []), (3, .mp 1), (61, .hole (.arr 64 (.st .entry))), (62, .hole .i)], [(0, (.st .tree), .hole (.st .tree))], [(1, .i, .i)]⟩, [(.ret, ⟨[(2, .hole .i)], [], []⟩), (.exit 2, ⟨[], [], []⟩)], 11, []⟩)]
noncomputable def Ls_keytree_Check : List (Nat × List (Nat × LD)) := []
noncomputable def B_keytree_Check : Bodies := []
theorem run_keytree_Check (x : denL [(.st .tree)]) : run [(48, c_ratchet_Check), (49, c_roster_Check)] L_keytree_Check Ls_keytree_Check B_keytree_Check Try.f26 [(.st .tree)] [.i] x = g_keytree_Check x := by kernel_rfl
theorem ok_keytree_Check : ConOK Try.prog 26 c_keytree_Check := con_ok (ConsOK.cons ok_ratchet_Check (ConsOK.cons ok_roster_Check (ConsOK.nil))) L_keytree_Check Ls_keytree_Check (B := B_keytree_Check) (BodiesOK.nil) Try.func26 rfl fun x y hf h => (run_keytree_Check x).trans (eq_keytree_Check x y hf h)
noncomputable def L_keytree_PathOf : List (Nat × LD) := [(9, ⟨⟨[(2, .ptr 0 []), (4, .ptr 1 []), (9, .ptr 3 []), (26, .hole (.arr 3 .i)), (27, .hole .i)], [(0, (.st .tree), .hole (.st .tree)), (1, (.arr 3 (.st .key)), .hole (.arr 3 (.st .key))), (3, (.arr 3 (.st .key)), .hole (.arr 3 (.st .key)))], []⟩, [(.exit 0, ⟨[(4, .ptr 1 []), (9, .ptr 3 [])], [(1, (.arr 3 (.st .key)), .hole (.arr 3 (.st .key))), (3, (.arr 3 (.st .key)), .hole (.arr 3 (.st .key)))], []⟩)], 10, []⟩)]
noncomputable def Ls_keytree_PathOf : List (Nat × List (Nat × LD)) := []
noncomputable def B_keytree_PathOf : Bodies := []
theorem run_keytree_PathOf (x : denL [(.st .tree), .i]) : run [(26, c_keytree_Check), (75, c_shape_Path)] L_keytree_PathOf Ls_keytree_PathOf B_keytree_PathOf Try.f51 [(.st .tree), .i] [(.arr 3 (.st .key)), .i] x = g_keytree_PathOf x := by kernel_rfl
theorem ok_keytree_PathOf : ConOK Try.prog 51 c_keytree_PathOf := con_ok (ConsOK.cons ok_keytree_Check (ConsOK.cons ok_shape_Path (ConsOK.nil))) L_keytree_PathOf Ls_keytree_PathOf (B := B_keytree_PathOf) (BodiesOK.nil) Try.func51 rfl fun x y hf h => (run_keytree_PathOf x).trans (eq_keytree_PathOf x y hf h)
noncomputable def L_keytree_Card : List (Nat × LD) := []
noncomputable def Ls_keytree_Card : List (Nat × List (Nat × LD)) := []
noncomputable def B_keytree_Card : Bodies := []
theorem run_keytree_Card (x : denL [(.st .tree), .i]) : run [(26, c_keytree_Check), (73, c_roster_Find), (74, c_ratchet_LeafAt)] L_keytree_Card Ls_keytree_Card B_keytree_Card Try.f50 [(.st .tree), .i] [(.st .card), .i] x = g_keytree_Card x := by kernel_rfl
theorem ok_keytree_Card : ConOK Try.prog 50 c_keytree_Card := con_ok (ConsOK.cons ok_keytree_Check (ConsOK.cons ok_roster_Find (ConsOK.cons ok_ratchet_LeafAt (ConsOK.nil)))) L_keytree_Card Ls_keytree_Card (B := B_keytree_Card) (BodiesOK.nil) Try.func50 rfl fun x y hf h => (run_keytree_Card x).trans (eq_keytree_Card x y hf h)
noncomputable def L_keytree_Stand : List (Nat × LD) := []
noncomputable def Ls_keytree_Stand : List (Nat × List (Nat × LD)) := []
noncomputable def B_keytree_Stand : Bodies := []
theorem run_keytree_Stand (x : denL [(.st .tree), .i]) : run [(50, c_keytree_Card), (51, c_keytree_PathOf)] L_keytree_Stand Ls_keytree_Stand B_keytree_Stand Try.f27 [(.st .tree), .i] [(.st .member), .i] x = g_keytree_Stand x := by kernel_rfl
theorem ok_keytree_Stand : ConOK Try.prog 27 c_keytree_Stand := con_ok (ConsOK.cons ok_keytree_Card (ConsOK.cons ok_keytree_PathOf (ConsOK.nil))) L_keytree_Stand Ls_keytree_Stand (B := B_keytree_Stand) (BodiesOK.nil) Try.func27 rfl fun x y hf h => (run_keytree_Stand x).trans (eq_keytree_Stand x y hf h)
noncomputable def L_ref08_Places : List (Nat × LD) := [(3, ⟨⟨[(0, .hole (.int .u64)), (2, .ptr 0 []), (3, .ptr 1 []), (4, .hole .i)], [(0, (.arr 64 .bool), .hole (.arr 64 .bool)), (1, (.arr 64 .bool), .hole (.arr 64 .bool))], []⟩, [(.exit 0, ⟨[(2, .ptr 0 []), (3, .ptr 1 [])], [(0, (.arr 64 .bool), .hole (.arr 64 .bool)), (1, (.arr 64 .bool), .hole (.arr 64 .bool))], []⟩)], 10, []⟩)]
noncomputable def Ls_ref08_Places : List (Nat × List (Nat × LD)) := []
noncomputable def B_ref08_Places : Bodies := []
theorem run_ref08_Places (x : denL [(.int .u64)]) : run [] L_ref08_Places Ls_ref08_Places B_ref08_Places Try.f105 [(.int .u64)] [(.arr 64 .bool)] x = g_ref08_Places x := by kernel_rfl
theorem ok_ref08_Places : ConOK Try.prog 105 c_ref08_Places := con_ok (ConsOK.nil) L_ref08_Places Ls_ref08_Places (B := B_ref08_Places) (BodiesOK.nil) Try.func105 rfl fun x y hf h => (run_ref08_Places x).trans (eq_ref08_Places x y hf h)
noncomputable def L_ref08_Word : List (Nat × LD) := [(3, ⟨⟨[(1, .ptr 0 []), (3, .hole (.int .u64)), (4, .hole .i)], [(0, (.arr 64 .bool), .hole (.arr 64 .bool))], []⟩, [(.exit 0, ⟨[(3, .hole (.int .u64))], [], []⟩)], 10, []⟩)]
noncomputable def Ls_ref08_Word : List (Nat × List (Nat × LD)) := []
noncomputable def B_ref08_Word : Bodies := []
theorem run_ref08_Word (x : denL [(.arr 64 .bool)]) : run [] L_ref08_Word Ls_ref08_Word B_ref08_Word Try.f101 [(.arr 64 .bool)] [(.int .u64)] x = g_ref08_Word x := by kernel_rfl
theorem ok_ref08_Word : ConOK Try.prog 101 c_ref08_Word := con_ok (ConsOK.nil) L_ref08_Word Ls_ref08_Word (B := B_ref08_Word) (BodiesOK.nil) Try.func101 rfl fun x y hf h => (run_ref08_Word x).trans (eq_ref08_Word x y hf h)
noncomputable def L_ref08_List : List (Nat × LD) := [(4, ⟨⟨[(3, .ptr 0 []), (4, .row .i), (5, .hole .i)], [(0, (.arr 64 .bool), .hole (.arr 64 .bool))], []⟩, [(.exit 0, ⟨[(4, .row .i)], [], []⟩)], 13, []⟩)]
noncomputable def Ls_ref08_List : List (Nat × List (Nat × LD)) := []
noncomputable def B_ref08_List : Bodies := []
theorem run_ref08_List (x : denL [(.int .u64)]) : run [(105, c_ref08_Places)] L_ref08_List Ls_ref08_List B_ref08_List Try.f100 [(.int .u64)] [(.list .i)] x = g_ref08_List x := by kernel_rfl
theorem ok_ref08_List : ConOK Try.prog 100 c_ref08_List := con_ok (ConsOK.cons ok_ref08_Places (ConsOK.nil)) L_ref08_List Ls_ref08_List (B := B_ref08_List) (BodiesOK.nil) Try.func100 rfl fun x y hf h => (run_ref08_List x).trans (eq_ref08_List x y hf h)
noncomputable def L_ref08_Count : List (Nat × LD) := []
noncomputable def Ls_ref08_Count : List (Nat × List (Nat × LD)) := []
noncomputable def B_ref08_Count : Bodies := []
theorem run_ref08_Count (x : denL [(.int .u64)]) : run [(100, c_ref08_List)] L_ref08_Count Ls_ref08_Count B_ref08_Count Try.f87 [(.int .u64)] [.i] x = g_ref08_Count x := by kernel_rfl
theorem ok_ref08_Count : ConOK Try.prog 87 c_ref08_Count := con_ok (ConsOK.cons ok_ref08_List (ConsOK.nil)) L_ref08_Count Ls_ref08_Count (B := B_ref08_Count) (BodiesOK.nil) Try.func87 rfl fun x y hf h => (run_ref08_Count x).trans (eq_ref08_Count x y hf h)
noncomputable def L_ref09_Taken : List (Nat × LD) := [(3, ⟨⟨[(1, .ptr 0 []), (3, .ptr 1 []), (4, .hole .i)], [(0, (.arr 64 (.st .entry)), .hole (.arr 64 (.st .entry))), (1, (.arr 64 .bool), .hole (.arr 64 .bool))], []⟩, [(.exit 0, ⟨[(3, .ptr 1 [])], [(1, (.arr 64 .bool), .hole (.arr 64 .bool))], []⟩)], 10, []⟩)]
noncomputable def Ls_ref09_Taken : List (Nat × List (Nat × LD)) := []
noncomputable def B_ref09_Taken : Bodies := []
theorem run_ref09_Taken (x : denL [(.arr 64 (.st .entry))]) : run [(101, c_ref08_Word)] L_ref09_Taken Ls_ref09_Taken B_ref09_Taken Try.f88 [(.arr 64 (.st .entry))] [(.int .u64)] x = g_ref09_Taken x := by kernel_rfl
theorem ok_ref09_Taken : ConOK Try.prog 88 c_ref09_Taken := con_ok (ConsOK.cons ok_ref08_Word (ConsOK.nil)) L_ref09_Taken Ls_ref09_Taken (B := B_ref09_Taken) (BodiesOK.nil) Try.func88 rfl fun x y hf h => (run_ref09_Taken x).trans (eq_ref09_Taken x y hf h)
noncomputable def L_ref09_person : List (Nat × LD) := []
noncomputable def Ls_ref09_person : List (Nat × List (Nat × LD)) := []
noncomputable def B_ref09_person : Bodies := []
theorem run_ref09_person (x : denL [(.arr 64 (.st .entry)), (.arr 256 .bool), .i, .bool]) : run [(38, c_ref09_Find)] L_ref09_person Ls_ref09_person B_ref09_person Try.f86 [(.arr 64 (.st .entry)), (.arr 256 .bool), .i, .bool] [.i] x = g_ref09_person x := by kernel_rfl
theorem ok_ref09_person : ConOK Try.prog 86 c_ref09_person := con_ok (ConsOK.cons ok_ref09_Find (ConsOK.nil)) L_ref09_person Ls_ref09_person (B := B_ref09_person) (BodiesOK.nil) Try.func86 rfl fun x y hf h => (run_ref09_person x).trans (eq_ref09_person x y hf h)
noncomputable def L_ref09_Fits : List (Nat × LD) := [(5, ⟨⟨[(2, .ptr 0 []), (3, .ptr 1 []), (5, .ptr 2 []), (16, .hole (.list .i)), (17, .hole .i), (18, .hole .i)], [(0, (.arr 64 (.st .entry)), .hole (.arr 64 (.st .entry))), (1, (.st .batch), .hole (.st .batch)), (2, (.arr 256 .bool), .hole (.arr 256 .bool))], []⟩, [(.ret, ⟨[(4, .hole .i)], [], []⟩), (.exit 0, ⟨[(2, .ptr 0 []), (3, .ptr 1 []), (5, .ptr 2 [])], [(0, (.arr 64 (.st .entry)), .hole (.arr 64 (.st .entry))), (1, (.st .batch), .hole (.st .batch)), (2, (.arr 256 .bool), .hole (.arr 256 .bool))], []⟩)], 10, []⟩), (13, ⟨⟨[(2, .ptr 0 []), (3, .ptr 1 []), (5, .ptr 2 []), (33, .hole (.list .i)), (34, .hole .i), (35, .hole .i)], [(0, (.arr 64 (.st .entry)), .hole (.arr 64 (.st .entry))), (1, (.st .batch), .hole (.st .batch)), (2, (.arr 256 .bool), .hole (.arr 256 .bool))], []⟩, [(.ret, ⟨[(4, .hole .i)], [], []⟩), (.exit 2, ⟨[(2, .ptr 0 []), (3, .ptr 1 [])], [(0, (.arr 64 (.st .entry)), .hole (.arr 64 (.st .entry))), (1, (.st .batch), .hole (.st .batch))], []⟩)], 10, []⟩)]
noncomputable def Ls_ref09_Fits : List (Nat × List (Nat × LD)) := []
noncomputable def B_ref09_Fits : Bodies := []
theorem run_ref09_Fits (x : denL [(.arr 64 (.st .entry)), (.st .batch)]) : run [(54, c_ref09_Check), (86, c_ref09_person), (88, c_ref09_Taken), (87, c_ref08_Count)] L_ref09_Fits Ls_ref09_Fits B_ref09_Fits Try.f62 [(.arr 64 (.st .entry)), (.st .batch)] [.i] x = g_ref09_Fits x := by kernel_rfl
theorem ok_ref09_Fits : ConOK Try.prog 62 c_ref09_Fits := con_ok (ConsOK.cons ok_ref09_Check (ConsOK.cons ok_ref09_person (ConsOK.cons ok_ref09_Taken (ConsOK.cons ok_ref08_Count (ConsOK.nil))))) L_ref09_Fits Ls_ref09_Fits (B := B_ref09_Fits) (BodiesOK.nil) Try.func62 rfl fun x y hf h => (run_ref09_Fits x).trans (eq_ref09_Fits x y hf h)
noncomputable def L_ref09_Move : List (Nat × LD) := [(10, ⟨⟨[(2, .hole .i), (3, .hole .i), (4, .ptr 0 []), (5, .ptr 1 []), (8, .ptr 2 []), (13, .hole .i), (14, .hole .i)], [(0, (.arr 64 (.st .entry)), .hole (.arr 64 (.st .entry))), (1, (.st .batch), .hole (.st .batch)), (2, (.arr 64 (.st .entry)), .hole (.arr 64 (.st .entry)))], []⟩, [(.ret, ⟨[(8, .ptr 2 []), (9, .nils), (10, .nils), (11, .hole .i)], [(2, (.arr 64 (.st .entry)), .hole (.arr 64 (.st .entry)))], []⟩), (.exit 0, ⟨[(2, .hole .i), (3, .hole .i), (4, .ptr 0 []), (5, .ptr 1 []), (8, .ptr 2 [])], [(0, (.arr 64 (.st .entry)), .hole (.arr 64 (.st .entry))), (1, (.st .batch), .hole (.st .batch)), (2, (.arr 64 (.st .entry)), .hole (.arr 64 (.st .entry)))], []⟩)], 10, []⟩), (16, ⟨⟨[(2, .hole .i), (3, .hole .i), (4, .ptr 0 []), (5, .ptr 1 []), (8, .ptr 2 []), (15, .row (.st .seat)), (16, .nils), (79, .hole (.list .i)), (80, .hole .i), (81, .hole .i)], [(0, (.arr 64 (.st .entry)), .hole (.arr 64 (.st .entry))), (1, (.st .batch), .hole (.st .batch)), (2, (.arr 64 (.st .entry)), .hole (.arr 64 (.st .entry)))], []⟩, [(.exit 2, ⟨[(2, .hole .i), (3, .hole .i), (4, .ptr 0 []), (5, .ptr 1 []), (8, .ptr 2 []), (15, .row (.st .seat)), (16, .nils)], [(0, (.arr 64 (.st .entry)), .hole (.arr 64 (.st .entry))), (1, (.st .batch), .hole (.st .batch)), (2, (.arr 64 (.st .entry)), .hole (.arr 64 (.st .entry)))], []⟩)], 13, []⟩), (26, ⟨⟨[(2, .hole .i), (3, .hole .i), (4, .ptr 0 []), (8, .ptr 2 []), (15, .row (.st .seat)), (16, .row (.st .seat)), (20, .hole .i), (21, .hole .i), (22, .hole .i), (99, .hole (.list .i)), (100, .hole .i), (101, .hole .i)], [(0, (.arr 64 (.st .entry)), .hole (.arr 64 (.st .entry))), (2, (.arr 64 (.st .entry)), .hole (.arr 64 (.st .entry)))], []⟩, [(.exit 6, ⟨[(2, .hole .i), (3, .hole .i), (4, .ptr 0 []), (8, .ptr 2 []), (15, .row (.st .seat)), (16, .row (.st .seat)), (20, .hole .i), (21, .hole .i), (22, .hole .i), (99, .hole (.list .i)), (100, .hole .i), (101, .hole .i)], [(0, (.arr 64 (.st .entry)), .hole (.arr 64 (.st .entry))), (2, (.arr 64 (.st .entry)), .hole (.arr 64 (.st .entry)))], []⟩)], 12, []⟩), (23, ⟨⟨[(2, .hole .i), (3, .hole .i), (4, .ptr 0 []), (8, .ptr 2 []), (15, .row (.st .seat)), (16, .row (.st .seat)), (99, .hole (.list .i)), (100, .hole .i), (101, .hole .i)], [(0, (.arr 64 (.st .entry)), .hole (.arr 64 (.st .entry))), (2, (.arr 64 (.st .entry)), .hole (.arr 64 (.st .entry)))], []⟩, [(.exit 4, ⟨[(4, .ptr 0 []), (8, .ptr 2 []), (15, .row (.st .seat)), (16, .row (.st .seat))], [(0, (.arr 64 (.st .entry)), .hole (.arr 64 (.st .entry))), (2, (.arr 64 (.st .entry)), .hole (.arr 64 (.st .entry)))], []⟩)], 24, []⟩)]
noncomputable def Ls_ref09_Move : List (Nat × List (Nat × LD)) := []
noncomputable def B_ref09_Move : Bodies := []
theorem run_ref09_Move (x : denL [(.arr 64 (.st .entry)), (.st .batch), .i, .i]) : run [(62, c_ref09_Fits), (38, c_ref09_Find)] L_ref09_Move Ls_ref09_Move B_ref09_Move Try.f65 [(.arr 64 (.st .entry)), (.st .batch), .i, .i] [(.arr 64 (.st .entry)), (.list (.st .seat)), (.list (.st .seat)), .i] x = g_ref09_Move x := by kernel_rfl
theorem ok_ref09_Move : ConOK Try.prog 65 c_ref09_Move := con_ok (ConsOK.cons ok_ref09_Fits (ConsOK.cons ok_ref09_Find (ConsOK.nil))) L_ref09_Move Ls_ref09_Move (B := B_ref09_Move) (BodiesOK.nil) Try.func65 rfl fun x y hf h => (run_ref09_Move x).trans (eq_ref09_Move x y hf h)
noncomputable def L_ref11_Replaced : List (Nat × LD) := [(7, ⟨⟨[(0, .hole (.list (.st .seat))), (3, .hole (.int .u32)), (4, .hole (.int .u32)), (5, .hole .i), (12, .hole (.list (.st .seat))), (13, .hole .i), (14, .hole .i)], [], []⟩, [(.exit 2, ⟨[(0, .hole (.list (.st .seat))), (3, .hole (.int .u32)), (4, .hole (.int .u32)), (5, .hole .i)], [], []⟩)], 11, []⟩), (4, ⟨⟨[(0, .hole (.list (.st .seat))), (3, .hole (.int .u32)), (4, .hole (.int .u32)), (5, .hole .i)], [], []⟩, [(.exit 0, ⟨[(3, .hole (.int .u32))], [], []⟩)], 22, []⟩)]
noncomputable def Ls_ref11_Replaced : List (Nat × List (Nat × LD)) := []
noncomputable def B_ref11_Replaced : Bodies := []
theorem run_ref11_Replaced (x : denL [(.list (.st .seat))]) : run [(44, c_ref01_Leaf), (90, c_ref01_Below)] L_ref11_Replaced Ls_ref11_Replaced B_ref11_Replaced Try.f64 [(.list (.st .seat))] [(.int .u32)] x = g_ref11_Replaced x := by kernel_rfl
theorem ok_ref11_Replaced : ConOK Try.prog 64 c_ref11_Replaced := con_ok (ConsOK.cons ok_ref01_Leaf (ConsOK.cons ok_ref01_Below (ConsOK.nil))) L_ref11_Replaced Ls_ref11_Replaced (B := B_ref11_Replaced) (BodiesOK.nil) Try.func64 rfl fun x y hf h => (run_ref11_Replaced x).trans (eq_ref11_Replaced x y hf h)
noncomputable def L_ref11_Next : List (Nat × LD) := [(10, ⟨⟨[(2, .ptr 0 []), (3, .ptr 1 []), (4, .ptr 2 []), (9, .row (.st .seat)), (34, .hole (.list .i)), (35, .hole .i), (36, .hole .i)], [(0, (.st .tree), .hole (.st .tree)), (1, (.st .batch), .hole (.st .batch)), (2, (.st .tree), .hole (.st .tree))], []⟩, [(.exit 0, ⟨[(2, .ptr 0 []), (3, .ptr 1 []), (4, .ptr 2 []), (9, .row (.st .seat))], [(0, (.st .tree), .hole (.st .tree)), (1, (.st .batch), .hole (.st .batch)), (2, (.st .tree), .hole (.st .tree))], []⟩)], 13, []⟩)]
noncomputable def Ls_ref11_Next : List (Nat × List (Nat × LD)) := []
noncomputable def B_ref11_Next : Bodies := []
theorem run_ref11_Next (x : denL [(.st .tree), (.st .batch)]) : run [(29, c_ref11_Check), (62, c_ref09_Fits), (38, c_ref09_Find), (64, c_ref11_Replaced), (63, c_ref10_Turn), (65, c_ref09_Move)] L_ref11_Next Ls_ref11_Next B_ref11_Next Try.f41 [(.st .tree), (.st .batch)] [(.st .tree), (.list (.st .seat)), (.list (.st .seat)), .i] x = g_ref11_Next x := by kernel_rfl
theorem ok_ref11_Next : ConOK Try.prog 41 c_ref11_Next := con_ok (ConsOK.cons ok_ref11_Check (ConsOK.cons ok_ref09_Fits (ConsOK.cons ok_ref09_Find (ConsOK.cons ok_ref11_Replaced (ConsOK.cons ok_ref10_Turn (ConsOK.cons ok_ref09_Move (ConsOK.nil))))))) L_ref11_Next Ls_ref11_Next (B := B_ref11_Next) (BodiesOK.nil) Try.func41 rfl fun x y hf h => (run_ref11_Next x).trans (eq_ref11_Next x y hf h)
noncomputable def L_ref12_item : List (Nat × LD) := []
noncomputable def Ls_ref12_item : List (Nat × List (Nat × LD)) := []
noncomputable def B_ref12_item : Bodies := []
theorem run_ref12_item (x : denL [(.st .tree), .i, .i]) : run [(43, c_ref11_Of)] L_ref12_item Ls_ref12_item B_ref12_item Try.f69 [(.st .tree), .i, .i] [(.st .item)] x = g_ref12_item x := by kernel_rfl
theorem ok_ref12_item : ConOK Try.prog 69 c_ref12_item := con_ok (ConsOK.cons ok_ref11_Of (ConsOK.nil)) L_ref12_item Ls_ref12_item (B := B_ref12_item) (BodiesOK.nil) Try.func69 rfl fun x y hf h => (run_ref12_item x).trans (eq_ref12_item x y hf h)
noncomputable def L_ref12_Items : List (Nat × LD) := [(7, ⟨⟨[(2, .hole (.list (.st .seat))), (3, .ptr 0 []), (7, .hole (.int .u32)), (8, .row (.st .item)), (9, .hole .i), (10, .hole .i)], [(0, (.st .tree), .hole (.st .tree))], []⟩, [(.exit 2, ⟨[(2, .hole (.list (.st .seat))), (3, .ptr 0 []), (7, .hole (.int .u32)), (8, .row (.st .item)), (9, .hole .i)], [(0, (.st .tree), .hole (.st .tree))], []⟩)], 13, []⟩), (4, ⟨⟨[(2, .hole (.list (.st .seat))), (3, .ptr 0 []), (7, .hole (.int .u32)), (8, .row (.st .item)), (9, .hole .i)], [(0, (.st .tree), .hole (.st .tree))], []⟩, [(.exit 0, ⟨[(2, .hole (.list (.st .seat))), (3, .ptr 0 []), (7, .hole (.int .u32)), (8, .row (.st .item))], [(0, (.st .tree), .hole (.st .tree))], []⟩)], 25, []⟩), (17, ⟨⟨[(3, .ptr 0 []), (7, .hole (.int .u32)), (8, .row (.st .item)), (13, .ptr 27 []), (14, .ptr 28 []), (16, .hole .i), (46, .hole (.list (.st .seat))), (47, .hole .i), (48, .hole .i)], [(0, (.st .tree), .hole (.st .tree)), (27, (.st .seat), .hole (.st .seat)), (28, (.arr 3 .i), .hole (.arr 3 .i))], []⟩, [(.exit 6, ⟨[(3, .ptr 0 []), (7, .hole (.int .u32)), (8, .row (.st .item)), (46, .hole (.list (.st .seat))), (47, .hole .i), (48, .hole .i)], [(0, (.st .tree), .hole (.st .tree))], []⟩)], 13, []⟩), (13, ⟨⟨[(3, .ptr 0 []), (7, .hole (.int .u32)), (8, .row (.st .item)), (46, .hole (.list (.st .seat))), (47, .hole .i), (48, .hole .i)], [(0, (.st .tree), .hole (.st .tree))], []⟩, [(.exit 4, ⟨[(8, .row (.st .item))], [], []⟩)], 27, []⟩)]
noncomputable def Ls_ref12_Items : List (Nat × List (Nat × LD)) := []
noncomputable def B_ref12_Items : Bodies := []
theorem run_ref12_Items (x : denL [(.st .tree), (.list (.st .seat)), (.list (.st .seat))]) : run [(64, c_ref11_Replaced), (66, c_ref01_In), (67, c_ref01_Child), (68, c_ref11_Below), (69, c_ref12_item), (20, c_ref01_Path), (44, c_ref01_Leaf)] L_ref12_Items Ls_ref12_Items B_ref12_Items Try.f42 [(.st .tree), (.list (.st .seat)), (.list (.st .seat))] [(.list (.st .item))] x = g_ref12_Items x := by kernel_rfl
theorem ok_ref12_Items : ConOK Try.prog 42 c_ref12_Items := con_ok (ConsOK.cons ok_ref11_Replaced (ConsOK.cons ok_ref01_In (ConsOK.cons ok_ref01_Child (ConsOK.cons ok_ref11_Below (ConsOK.cons ok_ref12_item (ConsOK.cons ok_ref01_Path (ConsOK.cons ok_ref01_Leaf (ConsOK.nil)))))))) L_ref12_Items Ls_ref12_Items (B := B_ref12_Items) (BodiesOK.nil) Try.func42 rfl fun x y hf h => (run_ref12_Items x).trans (eq_ref12_Items x y hf h)
noncomputable def L_ref12_Next : List (Nat × LD) := []
noncomputable def Ls_ref12_Next : List (Nat × List (Nat × LD)) := []
noncomputable def B_ref12_Next : Bodies := []
theorem run_ref12_Next (x : denL [(.st .tree), (.st .batch)]) : run [(41, c_ref11_Next), (42, c_ref12_Items)] L_ref12_Next Ls_ref12_Next B_ref12_Next Try.f18 [(.st .tree), (.st .batch)] [(.st .tree), (.st .rekey), .i] x = g_ref12_Next x := by kernel_rfl
theorem ok_ref12_Next : ConOK Try.prog 18 c_ref12_Next := con_ok (ConsOK.cons ok_ref11_Next (ConsOK.cons ok_ref12_Items (ConsOK.nil))) L_ref12_Next Ls_ref12_Next (B := B_ref12_Next) (BodiesOK.nil) Try.func18 rfl fun x y hf h => (run_ref12_Next x).trans (eq_ref12_Next x y hf h)
noncomputable def L_member_between : List (Nat × LD) := []
noncomputable def Ls_member_between : List (Nat × List (Nat × LD)) := []
noncomputable def B_member_between : Bodies := []
theorem run_member_between (x : denL [.i, .i, .i]) : run [] L_member_between Ls_member_between B_member_between Try.f91 [.i, .i, .i] [.bool] x = g_member_between x := by kernel_rfl
theorem ok_member_between : ConOK Try.prog 91 c_member_between := con_ok (ConsOK.nil) L_member_between Ls_member_between (B := B_member_between) (BodiesOK.nil) Try.func91 rfl fun x y hf h => (run_member_between x).trans (eq_member_between x y hf h)
noncomputable def L_member_card : List (Nat × LD) := []
noncomputable def Ls_member_card : List (Nat × List (Nat × LD)) := []
noncomputable def B_member_card : Bodies := []
theorem run_member_card (x : denL [(.st .card)]) : run [(91, c_member_between), (52, c_key_Good)] L_member_card Ls_member_card B_member_card Try.f92 [(.st .card)] [.bool] x = g_member_card x := by kernel_rfl
theorem ok_member_card : ConOK Try.prog 92 c_member_card := con_ok (ConsOK.cons ok_member_between (ConsOK.cons ok_key_Good (ConsOK.nil))) L_member_card Ls_member_card (B := B_member_card) (BodiesOK.nil) Try.func92 rfl fun x y hf h => (run_member_card x).trans (eq_member_card x y hf h)
noncomputable def L_member_Kind : List (Nat × LD) := []
noncomputable def Ls_member_Kind : List (Nat × List (Nat × LD)) := [(102, [(2, ⟨⟨[(0, .asl 0 [.fld 4]), (1, .fn 94 []), (7, .hole .i), (8, .hole .i)], [(0, (.st .member), .hole (.st .member))], []⟩, [(.ret, ⟨[(4, .hole .i)], [(0, (.st .member), .hole (.st .member))], []⟩), (.exit 0, ⟨[], [(0, (.st .member), .hole (.st .member))], []⟩)], 10, []⟩)])]
noncomputable def B_member_Kind : Bodies := [bodyLine 93 Try.f93, bodyLine 102 Try.f102, bodyLine 94 Try.f94]
theorem run_member_Kind (x : denL [(.st .member)]) : run [(91, c_member_between), (92, c_member_card), (52, c_key_Good)] L_member_Kind Ls_member_Kind B_member_Kind Try.f71 [(.st .member)] [.i] x = g_member_Kind x := by kernel_rfl
theorem ok_member_Kind : ConOK Try.prog 71 c_member_Kind := con_ok (ConsOK.cons ok_member_between (ConsOK.cons ok_member_card (ConsOK.cons ok_key_Good (ConsOK.nil)))) L_member_Kind Ls_member_Kind (B := B_member_Kind) (BodiesOK.cons Try.func93 rfl (BodiesOK.cons Try.func102 rfl (BodiesOK.cons Try.func94 rfl (BodiesOK.nil)))) Try.func71 rfl fun x y hf h => (run_member_Kind x).trans (eq_member_Kind x y hf h)
noncomputable def L_wire_between : List (Nat × LD) := []
noncomputable def Ls_wire_between : List (Nat × List (Nat × LD)) := []
noncomputable def B_wire_between : Bodies := []
theorem run_wire_between (x : denL [.i, .i, .i]) : run [] L_wire_between Ls_wire_between B_wire_between Try.f78 [.i, .i, .i] [.bool] x = g_wire_between x := by kernel_rfl
theorem ok_wire_between : ConOK Try.prog 78 c_wire_between := con_ok (ConsOK.nil) L_wire_between Ls_wire_between (B := B_wire_between) (BodiesOK.nil) Try.func78 rfl fun x y hf h => (run_wire_between x).trans (eq_wire_between x y hf h)
noncomputable def L_wire_epoch : List (Nat × LD) := []
noncomputable def Ls_wire_epoch : List (Nat × List (Nat × LD)) := []
noncomputable def B_wire_epoch : Bodies := []
theorem run_wire_epoch (x : denL [.i]) : run [(78, c_wire_between)] L_wire_epoch Ls_wire_epoch B_wire_epoch Try.f79 [.i] [.bool] x = g_wire_epoch x := by kernel_rfl
theorem ok_wire_epoch : ConOK Try.prog 79 c_wire_epoch := con_ok (ConsOK.cons ok_wire_between (ConsOK.nil)) L_wire_epoch Ls_wire_epoch (B := B_wire_epoch) (BodiesOK.nil) Try.func79 rfl fun x y hf h => (run_wire_epoch x).trans (eq_wire_epoch x y hf h)
noncomputable def L_wire_seat : List (Nat × LD) := []
noncomputable def Ls_wire_seat : List (Nat × List (Nat × LD)) := []
noncomputable def B_wire_seat : Bodies := []
theorem run_wire_seat (x : denL [(.st .seat)]) : run [(78, c_wire_between)] L_wire_seat Ls_wire_seat B_wire_seat Try.f81 [(.st .seat)] [.bool] x = g_wire_seat x := by kernel_rfl
theorem ok_wire_seat : ConOK Try.prog 81 c_wire_seat := con_ok (ConsOK.cons ok_wire_between (ConsOK.nil)) L_wire_seat Ls_wire_seat (B := B_wire_seat) (BodiesOK.nil) Try.func81 rfl fun x y hf h => (run_wire_seat x).trans (eq_wire_seat x y hf h)
noncomputable def L_wire_box : List (Nat × LD) := []
noncomputable def Ls_wire_box : List (Nat × List (Nat × LD)) := []
noncomputable def B_wire_box : Bodies := []
theorem run_wire_box (x : denL [(.st .box)]) : run [(52, c_key_Good)] L_wire_box Ls_wire_box B_wire_box Try.f85 [(.st .box)] [.bool] x = g_wire_box x := by kernel_rfl
theorem ok_wire_box : ConOK Try.prog 85 c_wire_box := con_ok (ConsOK.cons ok_key_Good (ConsOK.nil)) L_wire_box Ls_wire_box (B := B_wire_box) (BodiesOK.nil) Try.func85 rfl fun x y hf h => (run_wire_box x).trans (eq_wire_box x y hf h)
noncomputable def L_wire_item : List (Nat × LD) := []
noncomputable def Ls_wire_item : List (Nat × List (Nat × LD)) := []
noncomputable def B_wire_item : Bodies := []
theorem run_wire_item (x : denL [(.st .item)]) : run [(78, c_wire_between), (99, c_shape_Below), (85, c_wire_box)] L_wire_item Ls_wire_item B_wire_item Try.f83 [(.st .item)] [.bool] x = g_wire_item x := by kernel_rfl
theorem ok_wire_item : ConOK Try.prog 83 c_wire_item := con_ok (ConsOK.cons ok_wire_between (ConsOK.cons ok_shape_Below (ConsOK.cons ok_wire_box (ConsOK.nil)))) L_wire_item Ls_wire_item (B := B_wire_item) (BodiesOK.nil) Try.func83 rfl fun x y hf h => (run_wire_item x).trans (eq_wire_item x y hf h)
noncomputable def L_wire_empty : List (Nat × LD) := []
noncomputable def Ls_wire_empty : List (Nat × List (Nat × LD)) := []
noncomputable def B_wire_empty : Bodies := []
theorem run_wire_empty (x : denL [(.st .rekey)]) : run [] L_wire_empty Ls_wire_empty B_wire_empty Try.f77 [(.st .rekey)] [.bool] x = g_wire_empty x := by kernel_rfl
theorem ok_wire_empty : ConOK Try.prog 77 c_wire_empty := con_ok (ConsOK.nil) L_wire_empty Ls_wire_empty (B := B_wire_empty) (BodiesOK.nil) Try.func77 rfl fun x y hf h => (run_wire_empty x).trans (eq_wire_empty x y hf h)
noncomputable def L_wire_Good : List (Nat × LD) := [(5, ⟨⟨[(1, .ptr 0 []), (29, .hole (.arr 4 .bool)), (30, .hole .i)], [(0, (.st .message), .hole (.st .message))], []⟩, [(.ret, ⟨[(2, .hole .bool)], [], []⟩), (.exit 0, ⟨[(1, .ptr 0 [])], [(0, (.st .message), .hole (.st .message))], []⟩)], 10, []⟩)]
noncomputable def Ls_wire_Good : List (Nat × List (Nat × LD)) := [(80, [(2, ⟨⟨[(0, .hole (.list (.st .seat))), (1, .hole .i), (2, .fn 81 []), (9, .hole (.list (.st .seat))), (10, .hole .i), (11, .hole .i)], [(0, (.st .message), .hole (.st .message)), (12, (.st .rekey), .hole (.st .rekey))], []⟩, [(.ret, ⟨[(6, .hole .bool)], [(0, (.st .message), .hole (.st .message)), (12, (.st .rekey), .hole (.st .rekey))], []⟩), (.exit 0, ⟨[(0, .hole (.list (.st .seat))), (1, .hole .i)], [(0, (.st .message), .hole (.st .message)), (12, (.st .rekey), .hole (.st .rekey))], []⟩)], 11, []⟩)]), (82, [(2, ⟨⟨[(0, .hole (.list (.st .item))), (1, .hole .i), (2, .fn 83 []), (9, .hole (.list (.st .item))), (10, .hole .i), (11, .hole .i)], [(0, (.st .message), .hole (.st .message)), (12, (.st .rekey), .hole (.st .rekey))], []⟩, [(.ret, ⟨[(6, .hole .bool)], [(0, (.st .message), .hole (.st .message)), (12, (.st .rekey), .hole (.st .rekey))], []⟩), (.exit 0, ⟨[(0, .hole (.list (.st .item))), (1, .hole .i)], [(0, (.st .message), .hole (.st .message)), (12, (.st .rekey), .hole (.st .rekey))], []⟩)], 11, []⟩)]), (84, [(2, ⟨⟨[(0, .asl 12 [.fld 3]), (1, .hole .i), (2, .fn 85 []), (9, .asl 12 [.fld 3]), (10, .hole .i), (11, .hole .i)], [(0, (.st .message), .hole (.st .message)), (12, (.st .reply), .hole (.st .reply))], []⟩, [(.ret, ⟨[(6, .hole .bool)], [(0, (.st .message), .hole (.st .message)), (12, (.st .reply), .hole (.st .reply))], []⟩), (.exit 0, ⟨[(0, .asl 12 [.fld 3]), (1, .hole .i)], [(0, (.st .message), .hole (.st .message)), (12, (.st .reply), .hole (.st .reply))], []⟩)], 11, []⟩)])]
noncomputable def B_wire_Good : Bodies := [bodyLine 80 Try.f80, bodyLine 82 Try.f82, bodyLine 84 Try.f84]
theorem run_wire_Good (x : denL [(.st .message)]) : run [(77, c_wire_empty), (78, c_wire_between), (79, c_wire_epoch), (81, c_wire_seat), (83, c_wire_item), (85, c_wire_box), (52, c_key_Good)] L_wire_Good Ls_wire_Good B_wire_Good Try.f55 [(.st .message)] [.bool] x = g_wire_Good x := by kernel_rfl
theorem ok_wire_Good : ConOK Try.prog 55 c_wire_Good := con_ok (ConsOK.cons ok_wire_empty (ConsOK.cons ok_wire_between (ConsOK.cons ok_wire_epoch (ConsOK.cons ok_wire_seat (ConsOK.cons ok_wire_item (ConsOK.cons ok_wire_box (ConsOK.cons ok_key_Good (ConsOK.nil)))))))) L_wire_Good Ls_wire_Good (B := B_wire_Good) (BodiesOK.cons Try.func80 rfl (BodiesOK.cons Try.func82 rfl (BodiesOK.cons Try.func84 rfl (BodiesOK.nil)))) Try.func55 rfl fun x y hf h => (run_wire_Good x).trans (eq_wire_Good x y hf h)
noncomputable def L_recovery_asks : List (Nat × LD) := []
noncomputable def Ls_recovery_asks : List (Nat × List (Nat × LD)) := []
noncomputable def B_recovery_asks : Bodies := []
theorem run_recovery_asks (x : denL [(.st .member)]) : run [(71, c_member_Kind)] L_recovery_asks Ls_recovery_asks B_recovery_asks Try.f46 [(.st .member)] [.i] x = g_recovery_asks x := by kernel_rfl
theorem ok_recovery_asks : ConOK Try.prog 46 c_recovery_asks := con_ok (ConsOK.cons ok_member_Kind (ConsOK.nil)) L_recovery_asks Ls_recovery_asks (B := B_recovery_asks) (BodiesOK.nil) Try.func46 rfl fun x y hf h => (run_recovery_asks x).trans (eq_recovery_asks x y hf h)
noncomputable def L_recovery_Answer : List (Nat × LD) := [(13, ⟨⟨[(4, .ptr 2 []), (7, .ptr 3 []), (9, .ptr 4 []), (57, .hole (.arr 3 (.st .key))), (58, .hole .i)], [(2, (.st .reply), .hole (.st .reply)), (3, (.st .member), .hole (.st .member)), (4, (.st .reply), .hole (.st .reply))], []⟩, [(.exit 0, ⟨[(4, .ptr 2 []), (9, .ptr 4 [])], [(2, (.st .reply), .hole (.st .reply)), (4, (.st .reply), .hole (.st .reply))], []⟩)], 11, []⟩)]
noncomputable def Ls_recovery_Answer : List (Nat × List (Nat × LD)) := []
noncomputable def B_recovery_Answer : Bodies := []
theorem run_recovery_Answer (x : denL [(.st .tree), (.st .request)]) : run [(26, c_keytree_Check), (27, c_keytree_Stand), (28, c_key_Seal)] L_recovery_Answer Ls_recovery_Answer B_recovery_Answer Try.f10 [(.st .tree), (.st .request)] [(.st .reply), .i] x = g_recovery_Answer x := by kernel_rfl
theorem ok_recovery_Answer : ConOK Try.prog 10 c_recovery_Answer := con_ok (ConsOK.cons ok_keytree_Check (ConsOK.cons ok_keytree_Stand (ConsOK.cons ok_key_Seal (ConsOK.nil)))) L_recovery_Answer Ls_recovery_Answer (B := B_recovery_Answer) (BodiesOK.nil) Try.func10 rfl fun x y hf h => (run_recovery_Answer x).trans (eq_recovery_Answer x y hf h)
noncomputable def L_recovery_fits : List (Nat × LD) := []
noncomputable def Ls_recovery_fits : List (Nat × List (Nat × LD)) := []
noncomputable def B_recovery_fits : Bodies := []
theorem run_recovery_fits (x : denL [(.st .member), (.st .reply)]) : run [(46, c_recovery_asks), (55, c_wire_Good)] L_recovery_fits Ls_recovery_fits B_recovery_fits Try.f30 [(.st .member), (.st .reply)] [.i] x = g_recovery_fits x := by kernel_rfl
theorem ok_recovery_fits : ConOK Try.prog 30 c_recovery_fits := con_ok (ConsOK.cons ok_recovery_asks (ConsOK.cons ok_wire_Good (ConsOK.nil))) L_recovery_fits Ls_recovery_fits (B := B_recovery_fits) (BodiesOK.nil) Try.func30 rfl fun x y hf h => (run_recovery_fits x).trans (eq_recovery_fits x y hf h)
noncomputable def L_recovery_Take : List (Nat × LD) := [(9, ⟨⟨[(2, .ptr 0 []), (4, .ptr 2 []), (9, .ptr 4 []), (49, .hole (.arr 3 (.st .box))), (50, .hole .i)], [(0, (.st .member), .hole (.st .member)), (2, (.st .member), .hole (.st .member)), (4, (.st .member), .hole (.st .member))], []⟩, [(.ret, ⟨[(4, .ptr 2 []), (5, .hole .i)], [(2, (.st .member), .hole (.st .member))], []⟩), (.exit 0, ⟨[(2, .ptr 0 []), (4, .ptr 2 []), (9, .ptr 4 [])], [(0, (.st .member), .hole (.st .member)), (2, (.st .member), .hole (.st .member)), (4, (.st .member), .hole (.st .member))], []⟩)], 11, []⟩)]
noncomputable def Ls_recovery_Take : List (Nat × List (Nat × LD)) := []
noncomputable def B_recovery_Take : Bodies := []
theorem run_recovery_Take (x : denL [(.st .member), (.st .reply)]) : run [(30, c_recovery_fits), (31, c_ratchet_Follow), (32, c_key_Open)] L_recovery_Take Ls_recovery_Take B_recovery_Take Try.f12 [(.st .member), (.st .reply)] [(.st .member), .i] x = g_recovery_Take x := by kernel_rfl
theorem ok_recovery_Take : ConOK Try.prog 12 c_recovery_Take := con_ok (ConsOK.cons ok_recovery_fits (ConsOK.cons ok_ratchet_Follow (ConsOK.cons ok_key_Open (ConsOK.nil)))) L_recovery_Take Ls_recovery_Take (B := B_recovery_Take) (BodiesOK.nil) Try.func12 rfl fun x y hf h => (run_recovery_Take x).trans (eq_recovery_Take x y hf h)
noncomputable def L_law16_three : List (Nat × LD) := [(3, ⟨⟨[(0, .hole .i), (2, .ptr 0 []), (3, .ptr 2 []), (6, .hole .i)], [(0, (.st .tree), .hole (.st .tree)), (2, (.st .tree), .hole (.st .tree))], []⟩, [(.exit 0, ⟨[(2, .ptr 0 []), (3, .ptr 2 [])], [(0, (.st .tree), .hole (.st .tree)), (2, (.st .tree), .hole (.st .tree))], []⟩)], 10, []⟩)]
noncomputable def Ls_law16_three : List (Nat × List (Nat × LD)) := []
noncomputable def B_law16_three : Bodies := []
theorem run_law16_three (x : denL [.i]) : run [(47, c_ref11_Start), (18, c_ref12_Next)] L_law16_three Ls_law16_three B_law16_three Try.f25 [.i] [(.st .tree)] x = g_law16_three x := by kernel_rfl
theorem ok_law16_three : ConOK Try.prog 25 c_law16_three := con_ok (ConsOK.cons ok_ref11_Start (ConsOK.cons ok_ref12_Next (ConsOK.nil))) L_law16_three Ls_law16_three (B := B_law16_three) (BodiesOK.nil) Try.func25 rfl fun x y hf h => (run_law16_three x).trans (eq_law16_three x y hf h)
noncomputable def L_law16_lives : List (Nat × LD) := []
noncomputable def Ls_law16_lives : List (Nat × List (Nat × LD)) := []
noncomputable def B_law16_lives : Bodies := []
theorem run_law16_lives (x : denL []) : run [(25, c_law16_three), (15, c_ref11_Stand), (10, c_recovery_Answer), (12, c_recovery_Take)] L_law16_lives Ls_law16_lives B_law16_lives Try.f9 [] [.bool] x = g_law16_lives x := by kernel_rfl
theorem ok_law16_lives : ConOK Try.prog 9 c_law16_lives := con_ok (ConsOK.cons ok_law16_three (ConsOK.cons ok_ref11_Stand (ConsOK.cons ok_recovery_Answer (ConsOK.cons ok_recovery_Take (ConsOK.nil))))) L_law16_lives Ls_law16_lives (B := B_law16_lives) (BodiesOK.nil) Try.func9 rfl fun x y hf h => (run_law16_lives x).trans (eq_law16_lives x y hf h)
end Go.Proofs.Ytnepdmajobfcdaa
end

section
namespace Go.Proofs.Ytnepdmajobfcdaa
open Go Go.Co Go.Co.N Go.Proofs
noncomputable def L_law16_RecoveryYoung : List (Nat × LD) := [(5, ⟨⟨[(1, .ptr 0 []), (3, .row (.st .tree)), (26, .hole (.list (.st .batch))), (27, .hole .i), (28, .hole .i)], [], []⟩, [(.exit 0, ⟨[(1, .ptr 0 []), (3, .row (.st .tree))], [], []⟩)], 36, [0]⟩), (24, ⟨⟨[(9, .ptr 38 []), (10, .ptr 39 []), (13, .ptr 40 []), (14, .hole .i), (15, .ptr 41 []), (17, .hole .i), (74, .ssl 2), (75, .hole .i), (76, .hole .i)], [(39, (.st .reply), .hole (.st .reply)), (41, (.st .key), .hole (.st .key))], []⟩, [(.ret, ⟨[(2, .hole .bool)], [(39, (.st .reply), .hole (.st .reply)), (41, (.st .key), .hole (.st .key))], []⟩), (.exit 6, ⟨[(9, .ptr 38 []), (10, .ptr 39 []), (13, .ptr 40 []), (14, .hole .i), (74, .ssl 2), (75, .hole .i), (76, .hole .i)], [(39, (.st .reply), .hole (.st .reply)), (41, (.st .key), .hole (.st .key))], []⟩)], 30, [0, 2, 38, 40]⟩), (19, ⟨⟨[(9, .ptr 38 []), (10, .ptr 39 []), (13, .ptr 40 []), (14, .hole .i), (74, .ssl 2), (75, .hole .i), (76, .hole .i)], [(39, (.st .reply), .hole (.st .reply)), (40, (.st .tree), .hole (.st .tree))], []⟩, [(.ret, ⟨[(2, .hole .bool)], [(39, (.st .reply), .hole (.st .reply)), (40, (.st .tree), .hole (.st .tree))], []⟩), (.exit 4, ⟨[(9, .ptr 38 []), (10, .ptr 39 []), (74, .ssl 2), (75, .hole .i), (76, .hole .i)], [(39, (.st .reply), .hole (.st .reply)), (40, (.st .tree), .hole (.st .tree))], []⟩)], 41, [0, 2, 38]⟩), (16, ⟨⟨[(9, .ptr 38 []), (10, .ptr 39 []), (74, .ssl 2), (75, .hole .i), (76, .hole .i)], [(39, (.st .reply), .hole (.st .reply))], [(2, .unit, (.st .tree))]⟩, [(.ret, ⟨[(2, .hole .bool)], [(39, (.st .reply), .hole (.st .reply))], [(2, .unit, (.st .tree))]⟩), (.exit 2, ⟨[(9, .ptr 38 []), (10, .ptr 39 [])], [(39, (.st .reply), .hole (.st .reply))], [(2, .unit, (.st .tree))]⟩)], 63, [0, 38]⟩)]
noncomputable def Ls_law16_RecoveryYoung : List (Nat × List (Nat × LD)) := []
noncomputable def B_law16_RecoveryYoung : Bodies := []
theorem run_law16_RecoveryYoung (x : denL [(.st .lag)]) : run [(9, c_law16_lives), (18, c_ref12_Next), (10, c_recovery_Answer), (19, c_ref11_KeyOf), (17, c_ref02_Gives), (20, c_ref01_Path)] L_law16_RecoveryYoung Ls_law16_RecoveryYoung B_law16_RecoveryYoung Try.f6 [(.st .lag)] [.bool] x = g_law16_RecoveryYoung x := by kernel_rfl
theorem ok_law16_RecoveryYoung : ConOK Try.prog 6 c_law16_RecoveryYoung := con_ok (ConsOK.cons ok_law16_lives (ConsOK.cons ok_ref12_Next (ConsOK.cons ok_recovery_Answer (ConsOK.cons ok_ref11_KeyOf (ConsOK.cons ok_ref02_Gives (ConsOK.cons ok_ref01_Path (ConsOK.nil))))))) L_law16_RecoveryYoung Ls_law16_RecoveryYoung (B := B_law16_RecoveryYoung) (BodiesOK.nil) Try.func6 rfl fun x y hf h => (run_law16_RecoveryYoung x).trans (eq_law16_RecoveryYoung x y hf h)
end Go.Proofs.Ytnepdmajobfcdaa
end
