/-
  The document's Born: its tie.
  history.Born: the names that a tree has and the one before had not, whichever order the map's range takes, sorted.
  history.Born: what it computes.
  The program computes so: printed by a program of my own (wip/tool).
  The program computes so: printed by a program of my own (wip/tool).
  Rows written over; what the laws of these are to answer.
  What each function computes, printed by a program of my own (wip/tool) out of its run.
  Rows written over: what they are.
  What each function computes, printed by a program of my own (wip/tool) out of its run.
  Laws of rows of trees: right rows and others; who was on, what is excused.
  The program computes so: printed by a program of my own (wip/tool).
  history.Born answers new memory.
  The program computes so: printed by a program of my own (wip/tool).
  What the form's own reach gives of the arguments of the law HistoryAsks.
  No conditions. Own text, for the claims about coterie.
-/
import Derived.Test.YtghlolinkmlkeaaGreatDoorPartF

section
namespace Go.Proofs.YtghlolinkmlkeaaGreatDoor
open Go Go.Co Go.Co.N Go.Proofs
noncomputable def L_ref12_RowBorn : List (Nat × LD) := [(10, ⟨⟨[(3, .row (.st .reveal)), (4, .mp 2), (5, .hole .i), (6, .ptr 3 []), (7, .mp 5), (8, .hole .i), (13, .hole (.list (.st .tree))), (14, .hole .i), (15, .hole .i)], [(3, (.st .tree), .hole (.st .tree))], [(2, .i, .i), (5, .i, .i)]⟩, [(.exit 2, ⟨[(3, .row (.st .reveal)), (7, .mp 5), (13, .hole (.list (.st .tree))), (14, .hole .i), (15, .hole .i)], [(3, (.st .tree), .hole (.st .tree))], [(5, .i, .i)]⟩)], 34, [1000000, 3, 5, 2, 1]⟩), (6, ⟨⟨[(3, .row (.st .reveal)), (4, .omp .i .i), (13, .hole (.list (.st .tree))), (14, .hole .i), (15, .hole .i)], [], []⟩, [(.exit 0, ⟨[(3, .row (.st .reveal))], [], []⟩)], 200, []⟩)]
noncomputable def Ls_ref12_RowBorn : List (Nat × List (Nat × LD)) := [(56, [(7, ⟨⟨[(1, .ptr 4 []), (3, .mp 5), (5, .hole .i)], [(4, (.st .tree), .hole (.st .tree))], [(5, .i, .i)]⟩, [(.exit 2, ⟨[(3, .mp 5)], [(4, (.st .tree), .hole (.st .tree))], [(5, .i, .i)]⟩)], 30, [1000000, 4, 5]⟩), (3, ⟨⟨[(1, .ptr 4 []), (3, .mp 5), (4, .hole .i)], [(4, (.st .tree), .hole (.st .tree))], [(5, .i, .i)]⟩, [(.exit 0, ⟨[(1, .ptr 4 []), (3, .mp 5)], [(4, (.st .tree), .hole (.st .tree))], [(5, .i, .i)]⟩)], 30, [1000000, 4, 5]⟩)])]
noncomputable def B_ref12_RowBorn : Bodies := [bodyLine 56 Tryz.f56]
theorem run_ref12_RowBorn (x : denL [(.list (.st .tree))]) : run [(30, c_ref12_RowRight)] L_ref12_RowBorn Ls_ref12_RowBorn B_ref12_RowBorn Tryz.f35 [(.list (.st .tree))] [(.list (.st .reveal))] x = g_ref12_RowBorn x := by kernel_rfl
theorem ok_ref12_RowBorn : ConOK Tryz.prog 35 c_ref12_RowBorn := con_ok (ConsOK.cons ok_ref12_RowRight (ConsOK.nil)) L_ref12_RowBorn Ls_ref12_RowBorn (B := B_ref12_RowBorn) (BodiesOK.cons Tryz.func56 rfl (BodiesOK.nil)) Tryz.func35 rfl fun x y hf h => (run_ref12_RowBorn x).trans (eq_ref12_RowBorn x y hf h)
noncomputable def L_ref22_Born : List (Nat × LD) := []
noncomputable def Ls_ref22_Born : List (Nat × List (Nat × LD)) := []
noncomputable def B_ref22_Born : Bodies := []
theorem run_ref22_Born (x : denL [(.list (.st .tree))]) : run [(35, c_ref12_RowBorn)] L_ref22_Born Ls_ref22_Born B_ref22_Born Tryz.f17 [(.list (.st .tree))] [(.list (.st .reveal))] x = g_ref22_Born x := by kernel_rfl
theorem ok_ref22_Born : ConOK Tryz.prog 17 c_ref22_Born := con_ok (ConsOK.cons ok_ref12_RowBorn (ConsOK.nil)) L_ref22_Born Ls_ref22_Born (B := B_ref22_Born) (BodiesOK.nil) Tryz.func17 rfl fun x y hf h => (run_ref22_Born x).trans (eq_ref22_Born x y hf h)
end Go.Proofs.YtghlolinkmlkeaaGreatDoor
end

section
namespace Go.Proofs.YtghlolinkmlkeaaGreatDoor
open Go Go.Co Go.Co.N Go.Proofs

/-! ### The piece -/
noncomputable def bornLs : List (Nat × List (Nat × LD)) := [(31, [(8, ⟨⟨[(3, .mp 5), (21, .hole (.arr 64 (.st .entry))), (22, .hole .i)], [], [(5, .i, .i)]⟩, [(.exit 2, ⟨[(3, .mp 5)], [], [(5, .i, .i)]⟩)], 11, [1000000, 5]⟩), (3, ⟨⟨[(1, .ptr 4 []), (3, .mp 5), (10, .hole (.arr 21 (.st .key))), (11, .hole .i)], [(4, (.st .tree), .hole (.st .tree))], [(5, .i, .i)]⟩, [(.exit 0, ⟨[(1, .ptr 4 []), (3, .mp 5)], [(4, (.st .tree), .hole (.st .tree))], [(5, .i, .i)]⟩)], 11, [1000000, 4, 5]⟩)])]
noncomputable def bornL : List (Nat × LD) := [(6, ⟨⟨[(3, .row (.st .reveal)), (4, .omp .i .i), (14, .hole (.list (.st .tree))), (15, .hole .i), (16, .hole .i)], [], []⟩, [(.exit 0, ⟨[(3, .row (.st .reveal))], [], []⟩)], 80, []⟩)]
noncomputable def bornB : Bodies := [bodyLine 31 Tryz.f31]
noncomputable abbrev bornE0 : EE := EF [(13, c_history_Right)] [] bornLs bornB 4 bornL
noncomputable def bornE : EE := { bornE0 with sp := fun i => match Nat.beq i 10 with | true => some bornH | false => Option.none }
noncomputable def pieceB : Code := (hits 10 (body Tryz.f16)).headD .skip
noncomputable def rB (i : Nat) : Array Oper := regOps i pieceB
noncomputable def oB (i j : Nat) : Oper := (rB i).getD j default
noncomputable def restB : Code := .seq (.region 13 (rB 13) false) (.cond (.tmp 34) (.region 14 (rB 14) false) .skip)
noncomputable def endB : Code := .seq (.region 15 (rB 15) false) (.region 16 (rB 16) false)
noncomputable def loopB : Code := .seq (.region 10 (rB 10) false) (.block 2 (.loop (.seq (.region 11 (rB 11) false) (.seq (.cond (.tmp 28) .skip (.exit 2)) (.block 3 (.seq (.region 12 (rB 12) false) restB))))))
theorem piece_eq : hits 10 (body Tryz.f16) = [.seq loopB endB] := by kernel_rfl
theorem ops10 : (rB 10).toList = [oB 10 0, oB 10 1] := by kernel_rfl
theorem ops11 : (rB 11).toList = [oB 11 0, oB 11 1] := by kernel_rfl
theorem ops12 : (rB 12).toList = [oB 12 0, oB 12 1, oB 12 2] := by kernel_rfl
theorem hgsB : ∀ o ∈ [oB 10 0, oB 10 1, oB 11 0, oB 11 1, oB 12 0, oB 12 1, oB 12 2], o.guard = Option.none := by
  have h : [oB 10 0, oB 10 1, oB 11 0, oB 11 1, oB 12 0, oB 12 1, oB 12 2].all (fun o => o.guard.isNone) = true := by kernel_rfl
  intro o ho
  have := List.all_eq_true.1 h o ho
  simpa using this
theorem round_run (lw : List (Int × Int)) (i fr : Int) (ts : List Co.Tree) (len idx : Int) (xs : List Co.Reveal) (x : Int × Int) :
    evC bornE0 48 restB bornD.den ⟨putD (putD (mkD bornD 30 31 ((xs, (), i, (), fr, ts, len, idx, (), ()), (), lw, ())).slots (some 30) (.val .i x.1)) (some 9) (.val .i x.1), (mkD bornD 30 31 ((xs, (), i, (), fr, ts, len, idx, (), ()), (), lw, ())).mem, 31⟩ (rngK bornD 30 29) = born_round lw i fr ts len idx xs x := by kernel_rfl
theorem end_run (ln lw : List (Int × Int)) (i fr : Int) (ts : List Co.Tree) (len idx : Int) (xs : List Co.Reveal) (xs0 : List Co.Reveal) :
    evC bornE0 48 endB bornO.den (keepS (fun x => Nat.beq x 5) (mkD bornI 28 29 ((xs0, (), i, (), fr, ts, len, idx, ()), (), lw, ln, ())).mem (mkD bornD 30 31 ((xs, (), i, (), fr, ts, len, idx, (), ()), (), lw, ()))) (rngO 60) = born_end ln fr ts len idx xs := by kernel_rfl
theorem start_run (ln lw : List (Int × Int)) (i fr : Int) (ts : List Co.Tree) (len idx : Int) (xs : List Co.Reveal) :
    rdD bornD 30 ⟨putD (putD (mkD bornI 28 29 ((xs, (), i, (), fr, ts, len, idx, ()), (), lw, ln, ())).slots (some 25) (.mp 5)) (some 26) (.ptr 29 []), (dropS (fun x => Nat.beq x 5) (mkD bornI 28 29 ((xs, (), i, (), fr, ts, len, idx, ()), (), lw, ln, ()))).mem, 30⟩ = some ((xs, (), i, (), fr, ts, len, idx, (), ()), (), lw, ()) := by kernel_rfl
theorem piece_ok {C : Ctx} (hP : C.P = Tryz.prog) (hc : ConOK Tryz.prog 13 c_history_Right) : ∀ p ∈ hits 10 (body Tryz.f16), ∀ R s K y, bornH R s K = some y → ∃ s', Tri Tryz.prog C 48 p s .normal s' ∧ K s' = some y := by
  intro p hp R s K y hs
  rw [piece_eq, List.mem_singleton] at hp
  subst hp
  obtain ⟨hnx, xs, i, fr, ts, len, idx, lw, ln, hrd, hfr, hb1, hk⟩ := bornH_some hs
  have hE : EOK Tryz.prog C bornE0 := EF_ok (ConsOK.cons hc ConsOK.nil) bornLs (BodiesOK.cons Tryz.func31 rfl BodiesOK.nil) C hP 4 bornL
  have hlp : LpOK Tryz.prog C 48 bornE0 := lpM_ok (EF_lp bornLs bornB 4 bornL)
  have h0 : ∀ q, bornE0.sp q = Option.none := EF_sp bornLs bornB 4 bornL
  refine ⟨_, ⟨by rw [hnx]; show 28 ≤ 60; omega, fun U e a Q hu hf hq => ?_⟩, hk⟩
  rw [hnx] at hu
  have hu : free U 28 60 := hu
  obtain ⟨e1, hw1, hx1, hfr1, hf1⟩ := refit hf (U0 := U) (fun x h => .inl h) hf.mem.nx (fun x h1 h2 => hu x h1 (by have : bornI.rows = 1 := rfl; omega)) (Ext.refl e) (Frm.refl e _) hrd 29
  rw [← hw1]
  have hrI : bornI.rows = 1 := rfl
  have hrD : bornD.rows = 1 := rfl
  refine wp_seq (range_wp (P := Tryz.prog) (C := C) (n := 48) (r10 := rB 10) (r11 := rB 11) (r12 := rB 12) (i10 := 10) (i11 := 11) (i12 := 12) (j := 2) (k := 3) (dm := 7) (d25 := 25) (d26 := 26) (d27 := 27) (d28 := 28) (d29 := 29) (d30 := 30) (d9 := 9) (tm := 73) (rest := restB) (kid := 3) (eid := 3)
    ops10 ops11 ops12 hgsB (by kernel_rfl) (by kernel_rfl) (by kernel_rfl) (by kernel_rfl) (by kernel_rfl) (by kernel_rfl) (by kernel_rfl) (by kernel_rfl) (by kernel_rfl) (by kernel_rfl) (by kernel_rfl) (by kernel_rfl) (by kernel_rfl) (by kernel_rfl)
    ⟨by omega, by omega, by omega, by omega, by omega, by omega, by omega⟩ ⟨by omega, by omega⟩ Tryz.underlying73
    (D := bornD) (s := mkD bornI 28 29 ((xs, (), i, (), fr, ts, len, idx, ()), (), lw, ln, ())) (b := 5) (room := 29) (kt := .i) (vt := .i) (l := ln) (fun done => ((xs ++ pickB22 lw i done, (), i, (), fr, ts, len, idx, (), ()), (), lw, ()))
    rfl rfl ((start_run ln lw i fr ts len idx xs).trans (by simp [pickB22]; rfl)) (evC_ok hE rfl hlp h0 restB) ?_ (fun y => ⟨rfl, rfl, rfl⟩) (fun y => rfl) (by rw [hrD]; omega) (U := taken U 28 (28 + bornI.rows)) (e := e1) (a := a) ?_ hf1 ?_)
  · intro done x hperm
    exact (round_run lw i fr ts len idx (xs ++ pickB22 lw i done) x).trans (born_round_ok hperm hb1)
  · intro x h1 h2 h3
    have h1 : 29 ≤ x := h1
    have h2 : x < 59 := h2
    rcases h3 with h3 | h3
    · exact hu x (by omega) (by omega) h3
    · rw [hrI] at h3; omega
  · intro π e2 a2 hπ hf2 hx2 hfr2
    have hend := end_run ln lw i fr ts len idx (xs ++ pickB22 lw i π) xs
    rw [born_end_ok hπ hfr] at hend
    obtain ⟨r, s2, ht, hk⟩ := evC_ok hE rfl hlp h0 endB _ _ _ _ hend
    obtain ⟨rfl, hnx2, hrd2⟩ := rngO_some hk
    have hle2 : 31 ≤ s2.nx := ht.1
    refine ht.2 _ e2 a2 _ (fun x h1 h2 h3 => ?_) hf2 fun e3 a3 q1 q2 q3 => ?_
    · have h1 : 31 ≤ x := h1
      rcases h3 with (h3 | h3) | h3
      · exact hu x (by omega) (by omega) h3
      · rw [hrI] at h3; omega
      · have : x < 29 + 1 + 1 := h3.2
        omega
    · obtain ⟨e4, p1, p2, p3, p4⟩ := refit q1 (U0 := U) (fun x hx => by
        rcases hx with ((hx | hx) | hx) | hx
        · exact .inl hx
        · exact .inr hx.1
        · have : 29 ≤ x := hx.1
          exact .inr (by omega)
        · have : 31 ≤ x := hx.1
          exact .inr (by omega)) hf.mem.nx (fun x h1 h2 => hu x h1 (by have : bornO.rows = 2 := rfl; omega)) (hx1.trans (hx2.trans q2)) (hfr1.trans (hfr2.trans q3)) hrd2 60
      have hw := hq e4 a3 (p4.widen fun x hx => by
        rcases hx with hx | hx
        · exact .inl hx
        · refine .inr ⟨by rw [hnx]; exact hx.1, ?_⟩
          have : bornO.rows = 2 := rfl
          show x < 60
          omega) p2 p3
      rw [p1] at hw
      exact hw
end Go.Proofs.YtghlolinkmlkeaaGreatDoor
end

section
namespace Go.Proofs.YtghlolinkmlkeaaGreatDoor
open Go Go.Co Go.Co.N Go.Proofs
theorem run_history_Born (x : denL [(.list (.st .tree))]) : evF bornE Tryz.f16 (body Tryz.f16) [(.list (.st .tree))] x (retK T Tryz.f16.results.toList [(.list (.st .reveal))]) = g_history_Born x := by kernel_rfl
theorem ok_history_Born : ConOK Tryz.prog 16 c_history_Born := by
  have hs : shapeOK Tryz.f16 c_history_Born = true := by kernel_rfl
  simp only [shapeOK, Bool.and_eq_true, Bool.not_eq_true'] at hs
  obtain ⟨⟨⟨⟨h1, h2⟩, h3⟩, h4⟩, h5⟩ := hs
  obtain ⟨b, hb⟩ := Option.isSome_iff_exists.1 h1
  have hbb : body Tryz.f16 = b := by unfold body; rw [hb]
  refine con_of Tryz.func16 hb h2 (E := bornE) (fun C hP => ?_) (fun C _ => lpM_ok (show bornE.lp = lpM bornL from EF_lp (con := [(13, c_history_Right)]) (fr := []) bornLs bornB 4 bornL)) (fun C hP => SpOK.hits (id := 10) (h := bornH) rfl b (by have := piece_ok hP ok_history_Right; rwa [hbb] at this)) rfl h3 h4 h5 fun x y hf hxy => ?_
  · have h : EOK Tryz.prog C bornE0 := EF_ok (ConsOK.cons ok_history_Right ConsOK.nil) bornLs (BodiesOK.cons Tryz.func31 rfl BodiesOK.nil) C hP 4 bornL
    exact ⟨h.1, h.2, h.3, h.4, h.5⟩
  · have := (run_history_Born x).trans (eq_history_Born x y hf hxy)
    rwa [hbb] at this
end Go.Proofs.YtghlolinkmlkeaaGreatDoor
end

section
namespace Go.Proofs.YtghlolinkmlkeaaGreatDoor
open Go Go.Co Go.Co.N Go.Proofs
noncomputable def L_law22_lives : List (Nat × LD) := []
noncomputable def Ls_law22_lives : List (Nat × List (Nat × LD)) := []
noncomputable def B_law22_lives : Bodies := []
theorem run_law22_lives (x : denL []) : run [(9, c_history_Play), (13, c_history_Right), (19, c_history_On), (21, c_history_Excused), (16, c_history_Born)] L_law22_lives Ls_law22_lives B_law22_lives Tryz.f8 [] [.bool] x = g_law22_lives x := by kernel_rfl
theorem ok_law22_lives : ConOK Tryz.prog 8 c_law22_lives := con_ok (ConsOK.cons ok_history_Play (ConsOK.cons ok_history_Right (ConsOK.cons ok_history_On (ConsOK.cons ok_history_Excused (ConsOK.cons ok_history_Born (ConsOK.nil)))))) L_law22_lives Ls_law22_lives (B := B_law22_lives) (BodiesOK.nil) Tryz.func8 rfl fun x y hf h => (run_law22_lives x).trans (eq_law22_lives x y hf h)
end Go.Proofs.YtghlolinkmlkeaaGreatDoor
end

section
namespace Go.Proofs.YtghlolinkmlkeaaGreatDoor
open Go Go.Co Go.Co.N Go.Proofs
noncomputable def LF_history_Play : List (Nat × LD) := [(5, ⟨⟨[(4, .ptr 0 []), (5, .row (.st .tree)), (6, .row .i), (18, .hole (.list (.st .batch))), (19, .hole .i), (20, .hole .i)], [(0, (.st .tree), .hole (.st .tree))], []⟩, [(.exit 0, ⟨[(5, .row (.st .tree)), (6, .row .i)], [(0, (.st .tree), .hole (.st .tree))], []⟩)], 41, [1000000, 0, 1, 2]⟩)]
noncomputable def LsF_history_Play : List (Nat × List (Nat × LD)) := []
noncomputable def BF_history_Play : Bodies := []
theorem frun_history_Play (x : denL [(.list (.st .batch))]) : frun [(26, c_keytree_Start), (27, c_plan_Next)] [] LF_history_Play LsF_history_Play BF_history_Play Tryz.f9 [(.list (.st .batch))] [(.list (.st .tree)), (.list .i)] x = g_history_Play x := by kernel_rfl
theorem fok_history_Play : FConOK Tryz.prog 9 c_history_Play := fcon_ok (FConsOK.cons rfl ok_keytree_Start (FConsOK.cons rfl ok_plan_Next (FConsOK.nil))) LF_history_Play LsF_history_Play (B := BF_history_Play) (BodiesOK.nil) Tryz.func9 rfl fun x y hf h => (frun_history_Play x).trans (eq_history_Play x y hf h)
noncomputable def L_law22_HistoryPlays : List (Nat × LD) := [(9, ⟨⟨[(3, .row (.st .tree)), (4, .row .i), (5, .row (.st .tree)), (6, .row .i), (7, .hole (.list (.st .tree))), (8, .hole (.list .i)), (56, .hole .i), (57, .hole .i)], [], []⟩, [(.exit 0, ⟨[(3, .row (.st .tree)), (4, .row .i), (5, .row (.st .tree)), (6, .row .i), (7, .hole (.list (.st .tree))), (8, .hole (.list .i))], [], []⟩)], 14, []⟩), (14, ⟨⟨[(3, .row (.st .tree)), (4, .row .i), (5, .row (.st .tree)), (6, .row .i), (7, .hole (.list (.st .tree))), (8, .hole (.list .i)), (66, .hole .i), (67, .hole .i)], [], []⟩, [(.exit 2, ⟨[(3, .row (.st .tree)), (4, .row .i), (5, .row (.st .tree)), (6, .row .i), (7, .hole (.list (.st .tree))), (8, .hole (.list .i))], [], []⟩)], 14, []⟩)]
noncomputable def Ls_law22_HistoryPlays : List (Nat × List (Nat × LD)) := []
noncomputable def B_law22_HistoryPlays : Bodies := []
theorem run_law22_HistoryPlays (x : denL [(.list (.st .batch))]) : runF [(8, c_law22_lives), (9, c_history_Play), (10, c_ref22_Play), (11, c_ref22_SameRow), (12, c_ref22_SameErrors), (13, c_history_Right)] [9] L_law22_HistoryPlays Ls_law22_HistoryPlays B_law22_HistoryPlays Tryz.f3 [(.list (.st .batch))] [.bool] x = g_law22_HistoryPlays x := by kernel_rfl
theorem ok_law22_HistoryPlays : ConOK Tryz.prog 3 c_law22_HistoryPlays := con_okF (FConsOK.cons rfl ok_law22_lives (FConsOK.fcons rfl fok_history_Play (FConsOK.cons rfl ok_ref22_Play (FConsOK.cons rfl ok_ref22_SameRow (FConsOK.cons rfl ok_ref22_SameErrors (FConsOK.cons rfl ok_history_Right (FConsOK.nil))))))) L_law22_HistoryPlays Ls_law22_HistoryPlays (B := B_law22_HistoryPlays) (BodiesOK.nil) Tryz.func3 rfl fun x y hf h => (run_law22_HistoryPlays x).trans (eq_law22_HistoryPlays x y hf h)
end Go.Proofs.YtghlolinkmlkeaaGreatDoor
end

section
namespace Go.Co.N
open Go Go.Co
/-- The place that a number means. -/
def placeT (n : Int) (len : Nat) : Int := IntKind.wrap IntKind.i64 (Int.tmod (IntKind.wrap IntKind.u64 n) (IntKind.wrap IntKind.u64 (len : Int)))
theorem u64_mod (n : Int) : IntKind.wrap IntKind.u64 n = n % 18446744073709551616 := by
  unfold IntKind.wrap
  simp [IntKind.signed, IntKind.bits]
theorem place_in (n : Int) (len : Nat) (h : 0 < len) (hl : len ≤ 1000000) : 0 ≤ placeT n len ∧ placeT n len < (len : Int) := by
  unfold placeT
  have e1 : IntKind.wrap IntKind.u64 (len : Int) = (len : Int) := by rw [u64_mod]; omega
  have h0 : 0 ≤ IntKind.wrap IntKind.u64 n := by rw [u64_mod]; omega
  rw [e1, Int.tmod_eq_emod_of_nonneg h0]
  have h1 := Int.emod_nonneg (IntKind.wrap IntKind.u64 n) (show (len : Int) ≠ 0 by omega)
  have h2 := Int.emod_lt_of_pos (IntKind.wrap IntKind.u64 n) (show 0 < (len : Int) by omega)
  rw [i64_in _ (by omega)]
  exact ⟨h1, h2⟩
/-- A script's row, with some trees written over. -/
def rowT (t : Turned) : List Tree := t.At.foldl (fun out n => lput out (placeT n out.length) t.Tree) (rowOfS t.Script)
abbrev c_law22_row : Con := ⟨[.st .turned], [.list (.st .tree)], fun x => some (rowT x.1, ())⟩
abbrev c_law22_HistoryRights : Con := c_True [.st .turned]
abbrev c_law22_HistoryAsks : Con := ⟨[.st .ask], [.bool], fun x => guardK (decide (List.length (x.1 : Co.Ask).Seen * 16 ≤ 140737488351232)) (some (true, ()))⟩
end Go.Co.N
end

section
set_option maxRecDepth 100000
noncomputable section
namespace Go.Co.N
open Go Go.Co
def g_law22_row_r1 : (Unit × List Tree × List Int × Int × Int × Unit) × (Turned × Unit) × Unit → Option (((Unit × List Tree × List Int × Int × Int × Unit) × (Turned × Unit) × Unit) ⊕ ((List Tree × Unit) × Unit × Unit))
  | ((_, a, b, c, d, _), (e, _), _) => bif decide (d < c) then bif decide (0 ≤ d) && decide (d < (↑(List.length b) : Int)) then bif !decide (IntKind.wrap IntKind.u64 (↑(List.length a) : Int) = 0) then bif decide (0 ≤ IntKind.wrap IntKind.i64 (Int.tmod (IntKind.wrap IntKind.u64 (lat b d)) (IntKind.wrap IntKind.u64 (↑(List.length a) : Int)))) && decide (IntKind.wrap IntKind.i64 (Int.tmod (IntKind.wrap IntKind.u64 (lat b d)) (IntKind.wrap IntKind.u64 (↑(List.length a) : Int))) < (↑(List.length a) : Int)) then some (Sum.inl (((), lput a (IntKind.wrap IntKind.i64 (Int.tmod (IntKind.wrap IntKind.u64 (lat b d)) (IntKind.wrap IntKind.u64 (↑(List.length a) : Int)))) e.Tree, b, c, IntKind.wrap IntKind.i64 (d + 1), ()), (e, ()), ())) else none else none else none else some (Sum.inr ((a, ()), (), ()))
/-- coterie/coterielaw22.row -/
def g_law22_row : Turned × Unit → Option (List Tree × Unit)
  | (a, _) => Option.bind (lfp g_law22_row_r1 (((), rowOfS a.Script, a.At, (↑(List.length a.At) : Int), 0, ()), (a, ()), ())) fun z => some (z.fst.fst, ())
end Go.Co.N
end
end

section
namespace Go.Co.N
open Go Go.Co Go.Proofs Go.Sort

theorem fold_len (x : Tree) : ∀ (l : List Int) (out : List Tree), (l.foldl (fun out n => lput out (placeT n out.length) x) out).length = out.length
  | [], out => rfl
  | n :: l, out => by
    rw [List.foldl_cons, fold_len x l, lput_len22]
theorem rowT_len (t : Turned) : (rowT t).length = (rowOfS t.Script).length := fold_len t.Tree t.At _
theorem row_pos (s : List Batch) : 1 ≤ (rowOfS s).length := by show 1 ≤ ((playT startT s).1).length + 1; omega
theorem rowT_loop (t : Turned) (hA : t.At.length * 8 ≤ 140737488355328) : ∀ (r : List Int) (i : Nat) (a : List Tree), t.At.drop i = r → 1 ≤ a.length → a.length ≤ 201 →
    lfp g_law22_row_r1 (((), a, t.At, (t.At.length : Int), (i : Int), ()), (t, ()), ()) = some ((r.foldl (fun out n => lput out (placeT n out.length) t.Tree) a, ()), (), ())
  | [], i, a, hd, _, _ => by
    have hl : t.At.length ≤ i := List.drop_eq_nil_iff.1 hd
    refine lfp_inr ?_
    have k1 : decide ((i : Int) < (t.At.length : Int)) = false := decide_eq_false (by omega)
    simp only [g_law22_row_r1, k1, cond_false, List.foldl_nil]
  | n :: r, i, a, hd, h1, h2 => by
    obtain ⟨hl, hx, hr⟩ := lat_drop hd
    have k1 : decide ((i : Int) < (t.At.length : Int)) = true := decide_eq_true (by omega)
    have hi2 : IntKind.i64.wrap ((i : Int) + 1) = ((i + 1 : Nat) : Int) := by rw [i64_in _ (by omega)]; omega
    have k2 : decide (IntKind.wrap IntKind.u64 (a.length : Int) = 0) = false := decide_eq_false (by rw [u64_mod]; omega)
    obtain ⟨p1, p2⟩ := place_in n a.length (by omega) (by omega)
    have hfold : IntKind.wrap IntKind.i64 (Int.tmod (IntKind.wrap IntKind.u64 n) (IntKind.wrap IntKind.u64 (a.length : Int))) = placeT n a.length := rfl
    rw [lfp_inl (x' := (((), lput a (placeT n a.length) t.Tree, t.At, (t.At.length : Int), ((i + 1 : Nat) : Int), ()), (t, ()), ())) (by
      simp only [g_law22_row_r1, k1, k2, hx, hi2, hfold, decide_eq_true p1, decide_eq_true p2, Int.natCast_nonneg, decide_true, Bool.and_self, cond_true, Bool.not_false]), rowT_loop t hA r (i + 1) _ hr (by rw [lput_len22]; exact h1) (by rw [lput_len22]; exact h2), List.foldl_cons]
theorem eq_law22_row : Eqs c_law22_row g_law22_row := Eqs.tot fun (t, _) hf => by
  change Turned at t
  have hf' : Fine (.st .turned) t := hf.1
  have hA : t.At.length * 8 ≤ 140737488355328 := by
    rw [Fine.st] at hf'
    have h2 : Fine (.prod (.list (.st .batch)) (.prod (.list .i) (.prod (.st .tree) .unit))) (t.Script, t.At, t.Tree, ()) := hf'
    rw [Fine.prod, Fine.prod] at h2
    exact (Fine.list.1 h2.2.1).1
  have h := rowT_loop t hA t.At 0 (rowOfS t.Script) rfl (row_pos _) (row_len _)
  simp only [g_law22_row]
  rw [show lfp g_law22_row_r1 (((), rowOfS t.Script, t.At, (t.At.length : Int), 0, ()), (t, ()), ()) = _ from h]
  rfl
end Go.Co.N
end

section
set_option maxRecDepth 100000
noncomputable section
namespace Go.Co.N
open Go Go.Co
/-- coterie/coterielaw22.HistoryAsks -/
def g_law22_HistoryAsks : Co.Ask × Unit → Option (Bool × Unit)
  | (a, _) => bif decide ((0 + List.length a.Seen) * 16 ≤ 140737488355328) then bif decide ((List.length (List.append [] a.Seen) + 1) * 16 ≤ 140737488355328) then bif !decide (onR (rowT a.Row) a.Who a.From a.To = onR (rowT a.Row) a.Who a.From a.To) then some (false, ()) else bif decide (0 ≤ (↑(List.length a.Seen) : Int)) && decide ((↑(List.length a.Seen) : Int) ≤ (↑(List.length (List.append (List.append [] a.Seen) [Reveal.mk (-7) 0])) : Int)) then bif decide (excR (rowT a.Row) (List.take (Int.toNat (↑(List.length a.Seen) : Int)) (List.append (List.append [] a.Seen) [Reveal.mk (-7) 0])) a.To a.Node = excR (rowT a.Row) a.Seen a.To a.Node) then bif decide (0 ≤ (↑(List.length a.Seen) : Int)) && decide ((↑(List.length a.Seen) : Int) ≤ (↑(List.length (List.append (List.append [] a.Seen) [Reveal.mk (-7) 0])) : Int)) then bif decide (List.take (Int.toNat (↑(List.length a.Seen) : Int)) (List.append (List.append [] a.Seen) [Reveal.mk (-7) 0]) = a.Seen) then bif decide (0 ≤ (↑(List.length a.Seen) : Int)) && decide ((↑(List.length a.Seen) : Int) < (↑(List.length (List.append (List.append [] a.Seen) [Reveal.mk (-7) 0])) : Int)) then some (decide ((lat (List.append (List.append [] a.Seen) [Reveal.mk (-7) 0]) (↑(List.length a.Seen) : Int)).Who = -7), ()) else none else some (false, ()) else none else some (false, ()) else none else none else none
def g_law22_HistoryRights_r1 : (List Tree × List Tree × List Reveal × List Reveal × List Reveal × Int × Int × Unit) × Unit × Unit → Option (((List Tree × List Tree × List Reveal × List Reveal × List Reveal × Int × Int × Unit) × Unit × Unit) ⊕ ((List Tree × List Tree × List Reveal × List Reveal × List Reveal × Unit) × Unit × Unit))
  | ((a, b, c, d, e, f, g, _), _, _) => bif decide (g < f) then bif decide (0 ≤ g) && decide (g < (↑(List.length c) : Int)) then some (Sum.inl ((a, b, lput c g (Reveal.mk (-1) 0), d, e, f, IntKind.wrap IntKind.i64 (g + 1), ()), (), ())) else none else some (Sum.inr ((a, b, c, d, e, ()), (), ()))
/-- coterie/coterielaw22.HistoryRights -/
def g_law22_HistoryRights : Turned × Unit → Option (Bool × Unit)
  | (a, _) => bif decide ((0 + List.length (rowT a)) * 1888 ≤ 140737488355328) then bif decide ((List.length (List.append [] (rowT a)) + 1) * 1888 ≤ 140737488355328) then bif decide (0 ≤ (↑(List.length (rowT a)) : Int)) && decide ((↑(List.length (rowT a)) : Int) ≤ (↑(List.length (List.append (List.append [] (rowT a)) [Tree.mk (-7) 0 (Vector.replicate 21 (St.zero St.key)) (Vector.replicate 64 (St.zero St.entry))])) : Int)) then bif !decide (rightR (List.take (Int.toNat (↑(List.length (rowT a)) : Int)) (List.append (List.append [] (rowT a)) [Tree.mk (-7) 0 (Vector.replicate 21 (St.zero St.key)) (Vector.replicate 64 (St.zero St.entry))])) = rightR (rowT a)) then some (false, ()) else bif decide (0 ≤ (↑(List.length (rowT a)) : Int)) && decide ((↑(List.length (rowT a)) : Int) ≤ (↑(List.length (List.append (List.append [] (rowT a)) [Tree.mk (-7) 0 (Vector.replicate 21 (St.zero St.key)) (Vector.replicate 64 (St.zero St.entry))])) : Int)) then bif decide (0 ≤ (↑(List.length (rowT a)) : Int)) && decide ((↑(List.length (rowT a)) : Int) ≤ (↑(List.length (List.append (List.append [] (rowT a)) [Tree.mk (-7) 0 (Vector.replicate 21 (St.zero St.key)) (Vector.replicate 64 (St.zero St.entry))])) : Int)) then bif !decide (bornR (List.take (Int.toNat (↑(List.length (rowT a)) : Int)) (List.append (List.append [] (rowT a)) [Tree.mk (-7) 0 (Vector.replicate 21 (St.zero St.key)) (Vector.replicate 64 (St.zero St.entry))])) = bornR (rowT a)) then some (false, ()) else bif !decide (bornR (List.take (Int.toNat (↑(List.length (rowT a)) : Int)) (List.append (List.append [] (rowT a)) [Tree.mk (-7) 0 (Vector.replicate 21 (St.zero St.key)) (Vector.replicate 64 (St.zero St.entry))])) = bornR (rowT a)) then some (false, ()) else Option.bind (lfp g_law22_HistoryRights_r1 ((rowT a, List.append (List.append [] (rowT a)) [Tree.mk (-7) 0 (Vector.replicate 21 (St.zero St.key)) (Vector.replicate 64 (St.zero St.entry))], bornR (List.take (Int.toNat (↑(List.length (rowT a)) : Int)) (List.append (List.append [] (rowT a)) [Tree.mk (-7) 0 (Vector.replicate 21 (St.zero St.key)) (Vector.replicate 64 (St.zero St.entry))])), bornR (List.take (Int.toNat (↑(List.length (rowT a)) : Int)) (List.append (List.append [] (rowT a)) [Tree.mk (-7) 0 (Vector.replicate 21 (St.zero St.key)) (Vector.replicate 64 (St.zero St.entry))])), bornR (rowT a), (↑(List.length (bornR (List.take (Int.toNat (↑(List.length (rowT a)) : Int)) (List.append (List.append [] (rowT a)) [Tree.mk (-7) 0 (Vector.replicate 21 (St.zero St.key)) (Vector.replicate 64 (St.zero St.entry))])))) : Int), 0, ()), (), ())) fun z => bif decide ((List.length z.fst.snd.snd.fst + 1) * 16 ≤ 140737488355328) then bif decide (z.fst.snd.snd.snd.fst = z.fst.snd.snd.snd.snd.fst) then bif decide (0 ≤ (↑(List.length z.fst.fst) : Int)) && decide ((↑(List.length z.fst.fst) : Int) ≤ (↑(List.length z.fst.snd.fst) : Int)) then bif decide (List.take (Int.toNat (↑(List.length z.fst.fst) : Int)) z.fst.snd.fst = z.fst.fst) then bif decide (0 ≤ (↑(List.length z.fst.fst) : Int)) && decide ((↑(List.length z.fst.fst) : Int) < (↑(List.length z.fst.snd.fst) : Int)) then bif decide ((lat z.fst.snd.fst (↑(List.length z.fst.fst) : Int)).Epoch = -7) then some (decide ((↑(List.length (List.append z.fst.snd.snd.fst [Reveal.mk (-2) 0])) : Int) = IntKind.wrap IntKind.i64 ((↑(List.length z.fst.snd.snd.snd.snd.fst) : Int) + 1)), ()) else some (false, ()) else none else some (false, ()) else none else some (false, ()) else none else none else none else none else none else none
end Go.Co.N
end
end

section
namespace Go.Co.N
open Go Go.Co Go.Proofs Go.Sort

theorem own_take {α : Type} (l : List α) (x : α) : List.take (Int.toNat (l.length : Int)) (List.append (List.append [] l) [x]) = l := by simp
theorem own_len {α : Type} (l : List α) (x : α) : (List.append (List.append [] l) [x]).length = l.length + 1 := by simp
theorem own_last {α : Type} [Inhabited α] (l : List α) (x : α) : lat (List.append (List.append [] l) [x]) (l.length : Int) = x := by
  have e : List.append (List.append [] l) [x] = l ++ [x] := rfl
  rw [e, lat_nat _ _ (by rw [List.length_append, List.length_singleton]; omega)]
  simp
theorem own_le {α : Type} (l : List α) (x : α) : decide ((l.length : Int) ≤ ((List.append (List.append [] l) [x]).length : Int)) = true := decide_eq_true (by rw [own_len]; omega)
theorem own_lt {α : Type} (l : List α) (x : α) : decide ((l.length : Int) < ((List.append (List.append [] l) [x]).length : Int)) = true := decide_eq_true (by rw [own_len]; omega)
theorem eq_law22_HistoryAsks : Eqs c_law22_HistoryAsks g_law22_HistoryAsks := fun (a, _) y _ h => by
  change Co.Ask at a
  have h' : guardK (decide (a.Seen.length * 16 ≤ 140737488351232)) (some (true, ())) = some y := h
  by_cases hb : a.Seen.length * 16 ≤ 140737488351232
  · rw [decide_eq_true hb] at h'
    show g_law22_HistoryAsks (a, ()) = some y
    have k1 : decide ((0 + a.Seen.length) * 16 ≤ 140737488355328) = true := decide_eq_true (by omega)
    have k2 : decide (((List.append [] a.Seen).length + 1) * 16 ≤ 140737488355328) = true := decide_eq_true (by show (a.Seen.length + 1) * 16 ≤ _; omega)
    simp only [g_law22_HistoryAsks, k1, k2, own_take, own_le, own_lt, own_last, Int.natCast_nonneg, decide_true, Bool.and_self, cond_true, Bool.not_true, cond_false]
    exact h'
  · rw [decide_eq_false hb] at h'; cases h'

/-! ### HistoryRights -/
theorem bornR_len (row : List Tree) : (bornR row).length ≤ 1000000 := by
  unfold bornR
  cases hr : rightR row with
  | false => simp
  | true =>
    cases row with
    | nil => cases hr
    | cons t r =>
      have hr2 : (decide (t = startT) && chainB t r) = true := hr
      rw [Bool.and_eq_true, decide_eq_true_eq] at hr2
      obtain ⟨rfl, hc⟩ := hr2
      have hl := bornGo_len r startT 1 hc (by decide)
      have hs22 : startT.Fresh = 22 := rfl
      rw [cond_true, bornGo_cons, List.length_append, bornAt_len]
      have e : (bornGo startT.Fresh (0 + 1) r).length = (bornGo startT.Fresh 1 r).length := rfl
      omega
theorem rights_loop (a b : List Tree) (d e : List Reveal) : ∀ (n : Nat) (i : Nat) (c : List Reveal), c.length = i + n → c.length ≤ 1000000 →
    ∃ c' : List Reveal, c'.length = c.length ∧ lfp g_law22_HistoryRights_r1 ((a, b, c, d, e, (c.length : Int), (i : Int), ()), (), ()) = some ((a, b, c', d, e, ()), (), ())
  | 0, i, c, hn, _ => by
    refine ⟨c, rfl, lfp_inr ?_⟩
    have k1 : decide ((i : Int) < (c.length : Int)) = false := decide_eq_false (by omega)
    simp only [g_law22_HistoryRights_r1, k1, cond_false]
  | n + 1, i, c, hn, hl => by
    have hq : (lput c (i : Int) (Reveal.mk (-1) 0)).length = c.length := lput_len22 c (i : Int) _
    obtain ⟨c', h1, h2⟩ := rights_loop a b d e n (i + 1) (lput c (i : Int) (Reveal.mk (-1) 0)) (by rw [hq]; omega) (by rw [hq]; exact hl)
    rw [hq] at h1 h2
    refine ⟨c', h1, (lfp_inl ?_).trans h2⟩
    have k1 : decide ((i : Int) < (c.length : Int)) = true := decide_eq_true (by omega)
    have hi2 : IntKind.i64.wrap ((i : Int) + 1) = ((i + 1 : Nat) : Int) := by rw [i64_in _ (by omega)]; omega
    simp only [g_law22_HistoryRights_r1, k1, hi2, Int.natCast_nonneg, decide_true, Bool.and_self, cond_true]
theorem eq_law22_HistoryRights : Eqs c_law22_HistoryRights g_law22_HistoryRights := Eqs.tot fun (t, _) _ => by
  change Turned at t
  show g_law22_HistoryRights (t, ()) = some (true, ())
  have hl : (rowT t).length ≤ 201 := by rw [rowT_len]; exact row_len _
  have hb := bornR_len (rowT t)
  have k1 : decide ((0 + (rowT t).length) * 1888 ≤ 140737488355328) = true := decide_eq_true (by omega)
  have k2 : decide (((List.append [] (rowT t)).length + 1) * 1888 ≤ 140737488355328) = true := decide_eq_true (by show ((rowT t).length + 1) * 1888 ≤ _; omega)
  obtain ⟨c', h1, h2⟩ := rights_loop (rowT t) (List.append (List.append [] (rowT t)) [Tree.mk (-7) 0 (Vector.replicate 21 (St.zero St.key)) (Vector.replicate 64 (St.zero St.entry))]) (bornR (rowT t)) (bornR (rowT t)) (bornR (rowT t)).length 0 (bornR (rowT t)) (by omega) hb
  have k3 : decide ((c'.length + 1) * 16 ≤ 140737488355328) = true := decide_eq_true (by omega)
  have w1 : IntKind.wrap IntKind.i64 (((bornR (rowT t)).length : Int) + 1) = ((bornR (rowT t)).length : Int) + 1 := i64_in _ (by omega)
  have k4 : ∀ x : Reveal, decide (((List.append c' [x]).length : Int) = ((bornR (rowT t)).length : Int) + 1) = true := fun x => decide_eq_true (by
    show (((c' ++ [x]).length : Nat) : Int) = _
    rw [List.length_append, List.length_singleton]; omega)
  simp only [g_law22_HistoryRights, k1, k2, own_take, own_le, Int.natCast_nonneg, decide_true, Bool.and_self, cond_true, Bool.not_true, cond_false]
  rw [show lfp g_law22_HistoryRights_r1 ((rowT t, List.append (List.append [] (rowT t)) [Tree.mk (-7) 0 (Vector.replicate 21 (St.zero St.key)) (Vector.replicate 64 (St.zero St.entry))], bornR (rowT t), bornR (rowT t), bornR (rowT t), ((bornR (rowT t)).length : Int), 0, ()), (), ()) = _ from h2]
  simp only [Option.bind_some, k3, own_take, own_le, own_lt, own_last, Int.natCast_nonneg, decide_true, Bool.and_self, cond_true, w1, k4]
end Go.Co.N
end

section
namespace Go.Proofs.YtghlolinkmlkeaaGreatDoor
open Go Go.Co Go.Co.N Go.Proofs
noncomputable def LF_ref12_RowPlay : List (Nat × LD) := [(4, ⟨⟨[(4, .row (.st .tree)), (5, .row .i), (14, .hole (.list (.st .batch))), (15, .hole .i), (16, .hole .i)], [], []⟩, [(.exit 0, ⟨[(4, .row (.st .tree)), (5, .row .i)], [], []⟩)], 40, [1000000, 0]⟩)]
noncomputable def LsF_ref12_RowPlay : List (Nat × List (Nat × LD)) := []
noncomputable def BF_ref12_RowPlay : Bodies := []
theorem frun_ref12_RowPlay (x : denL [(.list (.st .batch))]) : frun [(49, c_ref11_Start), (43, c_ref11_Next)] [] LF_ref12_RowPlay LsF_ref12_RowPlay BF_ref12_RowPlay Tryz.f28 [(.list (.st .batch))] [(.list (.st .tree)), (.list .i)] x = g_ref12_RowPlay x := by kernel_rfl
theorem fok_ref12_RowPlay : FConOK Tryz.prog 28 c_ref12_RowPlay := fcon_ok (FConsOK.cons rfl ok_ref11_Start (FConsOK.cons rfl ok_ref11_Next (FConsOK.nil))) LF_ref12_RowPlay LsF_ref12_RowPlay (B := BF_ref12_RowPlay) (BodiesOK.nil) Tryz.func28 rfl fun x y hf h => (frun_ref12_RowPlay x).trans (eq_ref12_RowPlay x y hf h)
noncomputable def LF_ref22_Play : List (Nat × LD) := []
noncomputable def LsF_ref22_Play : List (Nat × List (Nat × LD)) := []
noncomputable def BF_ref22_Play : Bodies := []
theorem frun_ref22_Play (x : denL [(.list (.st .batch))]) : frun [(28, c_ref12_RowPlay)] [28] LF_ref22_Play LsF_ref22_Play BF_ref22_Play Tryz.f10 [(.list (.st .batch))] [(.list (.st .tree)), (.list .i)] x = g_ref22_Play x := by kernel_rfl
theorem fok_ref22_Play : FConOK Tryz.prog 10 c_ref22_Play := fcon_ok (FConsOK.fcons rfl fok_ref12_RowPlay (FConsOK.nil)) LF_ref22_Play LsF_ref22_Play (B := BF_ref22_Play) (BodiesOK.nil) Tryz.func10 rfl fun x y hf h => (frun_ref22_Play x).trans (eq_ref22_Play x y hf h)
noncomputable def L_law22_row : List (Nat × LD) := [(3, ⟨⟨[(1, .ptr 0 []), (3, .row (.st .tree)), (14, .hole (.list .i)), (15, .hole .i), (16, .hole .i)], [(0, (.st .turned), .hole (.st .turned))], []⟩, [(.exit 0, ⟨[(3, .row (.st .tree))], [], []⟩)], 11, []⟩)]
noncomputable def Ls_law22_row : List (Nat × List (Nat × LD)) := []
noncomputable def B_law22_row : Bodies := []
theorem run_law22_row (x : denL [(.st .turned)]) : runF [(10, c_ref22_Play)] [10] L_law22_row Ls_law22_row B_law22_row Tryz.f14 [(.st .turned)] [(.list (.st .tree))] x = g_law22_row x := by kernel_rfl
theorem ok_law22_row : ConOK Tryz.prog 14 c_law22_row := con_okF (FConsOK.fcons rfl fok_ref22_Play (FConsOK.nil)) L_law22_row Ls_law22_row (B := B_law22_row) (BodiesOK.nil) Tryz.func14 rfl fun x y hf h => (run_law22_row x).trans (eq_law22_row x y hf h)
end Go.Proofs.YtghlolinkmlkeaaGreatDoor
end

section
namespace Go.Proofs.YtghlolinkmlkeaaGreatDoor
open Go Go.Co Go.Co.N Go.Proofs
theorem frun_history_Born (x : denL [(.list (.st .tree))]) : evF bornE Tryz.f16 (body Tryz.f16) [(.list (.st .tree))] x (retF T Tryz.f16.results.toList [(.list (.st .reveal))]) = g_history_Born x := by kernel_rfl
theorem fok_history_Born : FConOK Tryz.prog 16 c_history_Born := by
  have hs : fshapeOK Tryz.f16 c_history_Born = true := by kernel_rfl
  simp only [fshapeOK, Bool.and_eq_true, Bool.not_eq_true'] at hs
  obtain ⟨⟨⟨⟨h1, h2⟩, h3⟩, h4⟩, h5⟩ := hs
  obtain ⟨b, hb⟩ := Option.isSome_iff_exists.1 h1
  have hbb : body Tryz.f16 = b := by unfold body; rw [hb]
  refine fcon_of Tryz.func16 hb h2 (E := bornE) (fun C hP => ?_) (fun C _ => lpM_ok (show bornE.lp = lpM bornL from EF_lp (con := [(13, c_history_Right)]) (fr := []) bornLs bornB 4 bornL)) (fun C hP => SpOK.hits (id := 10) (h := bornH) rfl b (by have := piece_ok hP ok_history_Right; rwa [hbb] at this)) rfl h3 h4 h5 fun x y hf hxy => ?_
  · have h : EOK Tryz.prog C bornE0 := EF_ok (ConsOK.cons ok_history_Right ConsOK.nil) bornLs (BodiesOK.cons Tryz.func31 rfl BodiesOK.nil) C hP 4 bornL
    exact ⟨h.1, h.2, h.3, h.4, h.5⟩
  · have := (frun_history_Born x).trans (eq_history_Born x y hf hxy)
    rwa [hbb] at this
end Go.Proofs.YtghlolinkmlkeaaGreatDoor
end

section
namespace Go.Proofs.YtghlolinkmlkeaaGreatDoor
open Go Go.Co Go.Co.N Go.Proofs
noncomputable def L_law22_HistoryAsks : List (Nat × LD) := []
noncomputable def Ls_law22_HistoryAsks : List (Nat × List (Nat × LD)) := []
noncomputable def B_law22_HistoryAsks : Bodies := []
theorem run_law22_HistoryAsks (x : denL [(.st .ask)]) : run [(8, c_law22_lives), (14, c_law22_row), (19, c_history_On), (20, c_ref22_On), (21, c_history_Excused), (22, c_ref22_Excused), (18, c_ref22_Same)] L_law22_HistoryAsks Ls_law22_HistoryAsks B_law22_HistoryAsks Tryz.f5 [(.st .ask)] [.bool] x = g_law22_HistoryAsks x := by kernel_rfl
theorem ok_law22_HistoryAsks : ConOK Tryz.prog 5 c_law22_HistoryAsks := con_ok (ConsOK.cons ok_law22_lives (ConsOK.cons ok_law22_row (ConsOK.cons ok_history_On (ConsOK.cons ok_ref22_On (ConsOK.cons ok_history_Excused (ConsOK.cons ok_ref22_Excused (ConsOK.cons ok_ref22_Same (ConsOK.nil)))))))) L_law22_HistoryAsks Ls_law22_HistoryAsks (B := B_law22_HistoryAsks) (BodiesOK.nil) Tryz.func5 rfl fun x y hf h => (run_law22_HistoryAsks x).trans (eq_law22_HistoryAsks x y hf h)
noncomputable def L_law22_HistoryRights : List (Nat × LD) := [(11, ⟨⟨[(3, .hole (.list (.st .tree))), (4, .row (.st .tree)), (5, .row (.st .reveal)), (6, .row (.st .reveal)), (7, .hole (.list (.st .reveal))), (53, .hole .i), (54, .hole .i)], [], []⟩, [(.exit 0, ⟨[(3, .hole (.list (.st .tree))), (4, .row (.st .tree)), (5, .row (.st .reveal)), (6, .row (.st .reveal)), (7, .hole (.list (.st .reveal)))], [], []⟩)], 13, []⟩)]
noncomputable def Ls_law22_HistoryRights : List (Nat × List (Nat × LD)) := []
noncomputable def B_law22_HistoryRights : Bodies := []
theorem run_law22_HistoryRights (x : denL [(.st .turned)]) : runF [(8, c_law22_lives), (14, c_law22_row), (13, c_history_Right), (15, c_ref22_Right), (16, c_history_Born), (17, c_ref22_Born), (18, c_ref22_Same), (11, c_ref22_SameRow)] [16] L_law22_HistoryRights Ls_law22_HistoryRights B_law22_HistoryRights Tryz.f4 [(.st .turned)] [.bool] x = g_law22_HistoryRights x := by kernel_rfl
theorem ok_law22_HistoryRights : ConOK Tryz.prog 4 c_law22_HistoryRights := con_okF (FConsOK.cons rfl ok_law22_lives (FConsOK.cons rfl ok_law22_row (FConsOK.cons rfl ok_history_Right (FConsOK.cons rfl ok_ref22_Right (FConsOK.fcons rfl fok_history_Born (FConsOK.cons rfl ok_ref22_Born (FConsOK.cons rfl ok_ref22_Same (FConsOK.cons rfl ok_ref22_SameRow (FConsOK.nil))))))))) L_law22_HistoryRights Ls_law22_HistoryRights (B := B_law22_HistoryRights) (BodiesOK.nil) Tryz.func4 rfl fun x y hf h => (run_law22_HistoryRights x).trans (eq_law22_HistoryRights x y hf h)
end Go.Proofs.YtghlolinkmlkeaaGreatDoor
end

section
namespace Go.Co.N
open Go Go.Co

theorem fr_law22_HistoryAsks (x : denL [.st .ask]) (h : FrL [.st .ask] x) : c_law22_HistoryAsks.fn x = some (true, ()) := by
  obtain ⟨a, _⟩ := x
  change Co.Ask at a
  have h1 : Fr (.st .ask) a := h.1
  rw [Fr.st] at h1
  have h2 : Fr (.prod (.st .turned) (.prod (.list (.st .reveal)) (.prod .i (.prod .i (.prod .i (.prod .i .unit)))))) (a.Row, a.Seen, a.Who, a.From, a.To, a.Node, ()) := h1
  rw [Fr.prod, Fr.prod] at h2
  have h3 : a.Seen.length * 16 ≤ 140737488351232 := Fr.list.1 h2.2.1
  show guardK (decide (List.length a.Seen * 16 ≤ 140737488351232)) (some (true, ())) = _
  rw [decide_eq_true h3]; rfl
end Go.Co.N
end
