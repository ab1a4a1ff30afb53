/-
  The program computes so: printed by a program of my own (wip/tool).
  The document's Born: its tie.
  history.Born: the names that a tree has and the one before had not, whichever order the map's range takes, sorted.
  history.Born: what it computes.
  The program computes so: printed by a program of my own (wip/tool).
  The program computes so: printed by a program of my own (wip/tool).
  The program computes so: printed by a program of my own (wip/tool).
  history.Born answers new memory.
  The program computes so: printed by a program of my own (wip/tool).
  What the form's own reach gives of the arguments of the law HistoryAsks.
  No conditions. Own text, for the claims about coterie.
-/
import Derived.Test.YtghlolinkmlkeaaGreatDoorPartF

section
namespace Go.Proofs.YtghlolinkmlkeaaGreatDoor
open Go Go.Co Go.Co.N Go.Proofs
noncomputable def L_history_Play : List (Nat × LD) := [(5, ⟨⟨[(4, .ptr 0 []), (5, .row (.st .tree)), (6, .row .i), (18, .hole (.list (.st .batch))), (19, .hole .i), (20, .hole .i)], [(0, (.st .tree), .hole (.st .tree))], []⟩, [(.exit 0, ⟨[(5, .row (.st .tree)), (6, .row .i)], [(0, (.st .tree), .hole (.st .tree))], []⟩)], 41, [1000000, 0, 1, 2]⟩)]
noncomputable def Ls_history_Play : List (Nat × List (Nat × LD)) := []
noncomputable def B_history_Play : Bodies := []
theorem run_history_Play (x : denL [(.list (.st .batch))]) : run [(26, c_keytree_Start), (27, c_plan_Next)] L_history_Play Ls_history_Play B_history_Play Tryz.f9 [(.list (.st .batch))] [(.list (.st .tree)), (.list .i)] x = g_history_Play x := by kernel_rfl
theorem ok_history_Play : ConOK Tryz.prog 9 c_history_Play := con_ok (ConsOK.cons ok_keytree_Start (ConsOK.cons ok_plan_Next (ConsOK.nil))) L_history_Play Ls_history_Play (B := B_history_Play) (BodiesOK.nil) Tryz.func9 rfl fun x y hf h => (run_history_Play x).trans (eq_history_Play x y hf h)
noncomputable def L_history_came : List (Nat × LD) := [(4, ⟨⟨[(3, .ptr 1 []), (4, .ptr 2 []), (5, .ptr 3 []), (6, .row (.st .entry)), (13, .hole (.arr 64 (.st .entry))), (14, .hole .i)], [(1, (.st .tree), .hole (.st .tree)), (3, (.st .batch), .agv  .batch (.cons (.row .i) (.cons (.nils) (.nil))))], []⟩, [(.exit 0, ⟨[(4, .ptr 2 []), (5, .ptr 3 []), (6, .row (.st .entry))], [(1, (.st .tree), .hole (.st .tree)), (3, (.st .batch), .agv  .batch (.cons (.row .i) (.cons (.nils) (.nil))))], []⟩)], 40, [1000000, 1, 3]⟩), (15, ⟨⟨[(4, .ptr 2 []), (5, .ptr 3 []), (45, .slf 4), (46, .hole .i), (47, .hole .i)], [(3, (.st .batch), .agv  .batch (.cons (.slf 5) (.cons (.row .i) (.nil))))], [(4, .unit, (.st .entry))]⟩, [(.exit 2, ⟨[(4, .ptr 2 []), (5, .ptr 3 [])], [(3, (.st .batch), .agv  .batch (.cons (.slf 5) (.cons (.row .i) (.nil))))], [(4, .unit, (.st .entry))]⟩)], 35, [1000000, 3, 4]⟩)]
noncomputable def Ls_history_came : List (Nat × List (Nat × LD)) := []
noncomputable def B_history_came : Bodies := []
theorem run_history_came (x : denL [(.st .tree), (.st .tree)]) : run [] L_history_came Ls_history_came B_history_came Tryz.f29 [(.st .tree), (.st .tree)] [(.st .batch)] x = g_history_came x := by kernel_rfl
theorem ok_history_came : ConOK Tryz.prog 29 c_history_came := con_ok (ConsOK.nil) L_history_came Ls_history_came (B := B_history_came) (BodiesOK.nil) Tryz.func29 rfl fun x y hf h => (run_history_came x).trans (eq_history_came x y hf h)
noncomputable def L_history_Right : List (Nat × LD) := [(4, ⟨⟨[(0, .hole (.list (.st .tree))), (19, .hole (.list (.st .tree))), (20, .hole .i), (21, .hole .i)], [], []⟩, [(.ret, ⟨[(2, .hole .bool)], [], []⟩), (.exit 0, ⟨[], [], []⟩)], 33, [1000000]⟩)]
noncomputable def Ls_history_Right : List (Nat × List (Nat × LD)) := []
noncomputable def B_history_Right : Bodies := []
theorem run_history_Right (x : denL [(.list (.st .tree))]) : run [(26, c_keytree_Start), (29, c_history_came), (27, c_plan_Next)] L_history_Right Ls_history_Right B_history_Right Tryz.f13 [(.list (.st .tree))] [.bool] x = g_history_Right x := by kernel_rfl
theorem ok_history_Right : ConOK Tryz.prog 13 c_history_Right := con_ok (ConsOK.cons ok_keytree_Start (ConsOK.cons ok_history_came (ConsOK.cons ok_plan_Next (ConsOK.nil)))) L_history_Right Ls_history_Right (B := B_history_Right) (BodiesOK.nil) Tryz.func13 rfl fun x y hf h => (run_history_Right x).trans (eq_history_Right x y hf h)
noncomputable def L_history_On : List (Nat × LD) := [(4, ⟨⟨[(1, .hole .i), (28, .hole (.list (.st .tree))), (29, .hole .i), (30, .hole .i)], [], []⟩, [(.ret, ⟨[(8, .hole .bool)], [], []⟩), (.exit 0, ⟨[], [], []⟩)], 31, [1000000]⟩)]
noncomputable def Ls_history_On : List (Nat × List (Nat × LD)) := []
noncomputable def B_history_On : Bodies := []
theorem run_history_On (x : denL [(.list (.st .tree)), .i, .i, .i]) : run [(36, c_roster_Find)] L_history_On Ls_history_On B_history_On Tryz.f19 [(.list (.st .tree)), .i, .i, .i] [.bool] x = g_history_On x := by kernel_rfl
theorem ok_history_On : ConOK Tryz.prog 19 c_history_On := con_ok (ConsOK.cons ok_roster_Find (ConsOK.nil)) L_history_On Ls_history_On (B := B_history_On) (BodiesOK.nil) Tryz.func19 rfl fun x y hf h => (run_history_On x).trans (eq_history_On x y hf h)
noncomputable def L_history_Excused : List (Nat × LD) := []
noncomputable def Ls_history_Excused : List (Nat × List (Nat × LD)) := [(60, [(2, ⟨⟨[(0, .hole (.list (.st .reveal))), (1, .fn 39 [0, 1, 2]), (7, .hole .i), (8, .hole .i)], [(0, (.list (.st .tree)), .hole (.list (.st .tree))), (1, .i, .hole .i), (2, .i, .hole .i)], []⟩, [(.ret, ⟨[(4, .hole .i)], [(0, (.list (.st .tree)), .hole (.list (.st .tree))), (1, .i, .hole .i), (2, .i, .hole .i)], []⟩), (.exit 0, ⟨[], [(0, (.list (.st .tree)), .hole (.list (.st .tree))), (1, .i, .hole .i), (2, .i, .hole .i)], []⟩)], 31, [1000000, 0, 1, 2]⟩)])]
noncomputable def B_history_Excused : Bodies := [bodyLine 39 Tryz.f39, bodyLine 38 Tryz.f38, bodyLine 60 Tryz.f60]
theorem run_history_Excused (x : denL [(.list (.st .tree)), (.list (.st .reveal)), .i, .i]) : run [(19, c_history_On), (36, c_roster_Find), (41, c_shape_Leaf), (40, c_shape_Below)] L_history_Excused Ls_history_Excused B_history_Excused Tryz.f21 [(.list (.st .tree)), (.list (.st .reveal)), .i, .i] [.bool] x = g_history_Excused x := by kernel_rfl
theorem ok_history_Excused : ConOK Tryz.prog 21 c_history_Excused := con_ok (ConsOK.cons ok_history_On (ConsOK.cons ok_roster_Find (ConsOK.cons ok_shape_Leaf (ConsOK.cons ok_shape_Below (ConsOK.nil))))) L_history_Excused Ls_history_Excused (B := B_history_Excused) (BodiesOK.cons Tryz.func39 rfl (BodiesOK.cons Tryz.func38 rfl (BodiesOK.cons Tryz.func60 rfl (BodiesOK.nil)))) Tryz.func21 rfl fun x y hf h => (run_history_Excused x).trans (eq_history_Excused x y hf h)
noncomputable def L_ref12_RowPlay : List (Nat × LD) := [(4, ⟨⟨[(4, .row (.st .tree)), (5, .row .i), (14, .hole (.list (.st .batch))), (15, .hole .i), (16, .hole .i)], [], []⟩, [(.exit 0, ⟨[(4, .row (.st .tree)), (5, .row .i)], [], []⟩)], 40, [1000000, 0]⟩)]
noncomputable def Ls_ref12_RowPlay : List (Nat × List (Nat × LD)) := []
noncomputable def B_ref12_RowPlay : Bodies := []
theorem run_ref12_RowPlay (x : denL [(.list (.st .batch))]) : run [(49, c_ref11_Start), (43, c_ref11_Next)] L_ref12_RowPlay Ls_ref12_RowPlay B_ref12_RowPlay Tryz.f28 [(.list (.st .batch))] [(.list (.st .tree)), (.list .i)] x = g_ref12_RowPlay x := by kernel_rfl
theorem ok_ref12_RowPlay : ConOK Tryz.prog 28 c_ref12_RowPlay := con_ok (ConsOK.cons ok_ref11_Start (ConsOK.cons ok_ref11_Next (ConsOK.nil))) L_ref12_RowPlay Ls_ref12_RowPlay (B := B_ref12_RowPlay) (BodiesOK.nil) Tryz.func28 rfl fun x y hf h => (run_ref12_RowPlay x).trans (eq_ref12_RowPlay x y hf h)
noncomputable def L_ref12_between : List (Nat × LD) := [(3, ⟨⟨[(2, .ptr 0 []), (3, .ptr 1 []), (4, .ptr 2 []), (5, .ptr 3 []), (6, .hole .i)], [(0, (.st .tree), .hole (.st .tree)), (1, (.st .tree), .hole (.st .tree)), (2, (.st .batch), .agv  .batch (.cons (.nils) (.cons (.nils) (.nil)))), (3, (.st .batch), .agv  .batch (.cons (.row .i) (.cons (.nils) (.nil))))], []⟩, [(.exit 0, ⟨[(2, .ptr 0 []), (3, .ptr 1 []), (4, .ptr 2 []), (5, .ptr 3 [])], [(0, (.st .tree), .hole (.st .tree)), (1, (.st .tree), .hole (.st .tree)), (2, (.st .batch), .agv  .batch (.cons (.nils) (.cons (.nils) (.nil)))), (3, (.st .batch), .agv  .batch (.cons (.row .i) (.cons (.nils) (.nil))))], []⟩)], 13, []⟩), (10, ⟨⟨[(2, .ptr 0 []), (3, .ptr 1 []), (4, .ptr 2 []), (5, .ptr 3 []), (7, .hole .i), (8, .hole .i), (9, .hole .i)], [(0, (.st .tree), .hole (.st .tree)), (1, (.st .tree), .hole (.st .tree)), (2, (.st .batch), .agv  .batch (.cons (.nils) (.cons (.nils) (.nil)))), (3, (.st .batch), .agv  .batch (.cons (.row .i) (.cons (.row .i) (.nil))))], []⟩, [(.exit 4, ⟨[(2, .ptr 0 []), (3, .ptr 1 []), (4, .ptr 2 []), (5, .ptr 3 []), (8, .hole .i)], [(0, (.st .tree), .hole (.st .tree)), (1, (.st .tree), .hole (.st .tree)), (2, (.st .batch), .agv  .batch (.cons (.nils) (.cons (.nils) (.nil)))), (3, (.st .batch), .agv  .batch (.cons (.row .i) (.cons (.row .i) (.nil))))], []⟩)], 13, []⟩), (8, ⟨⟨[(2, .ptr 0 []), (3, .ptr 1 []), (4, .ptr 2 []), (5, .ptr 3 []), (7, .hole .i)], [(0, (.st .tree), .hole (.st .tree)), (1, (.st .tree), .hole (.st .tree)), (2, (.st .batch), .agv  .batch (.cons (.nils) (.cons (.nils) (.nil)))), (3, (.st .batch), .agv  .batch (.cons (.row .i) (.cons (.row .i) (.nil))))], []⟩, [(.ret, ⟨[(4, .ptr 2 [])], [(2, (.st .batch), .agv  .batch (.cons (.row .i) (.cons (.row .i) (.nil))))], []⟩)], 26, []⟩)]
noncomputable def Ls_ref12_between : List (Nat × List (Nat × LD)) := []
noncomputable def B_ref12_between : Bodies := []
theorem run_ref12_between (x : denL [(.st .tree), (.st .tree)]) : run [] L_ref12_between Ls_ref12_between B_ref12_between Tryz.f52 [(.st .tree), (.st .tree)] [(.st .batch)] x = g_ref12_between x := by kernel_rfl
theorem ok_ref12_between : ConOK Tryz.prog 52 c_ref12_between := con_ok (ConsOK.nil) L_ref12_between Ls_ref12_between (B := B_ref12_between) (BodiesOK.nil) Tryz.func52 rfl fun x y hf h => (run_ref12_between x).trans (eq_ref12_between x y hf h)
noncomputable def L_ref12_RowRight : List (Nat × LD) := [(4, ⟨⟨[(0, .hole (.list (.st .tree))), (3, .hole .i)], [], []⟩, [(.ret, ⟨[(2, .hole .bool)], [], []⟩), (.exit 0, ⟨[], [], []⟩)], 31, [1000000]⟩)]
noncomputable def Ls_ref12_RowRight : List (Nat × List (Nat × LD)) := []
noncomputable def B_ref12_RowRight : Bodies := []
theorem run_ref12_RowRight (x : denL [(.list (.st .tree))]) : run [(49, c_ref11_Start), (52, c_ref12_between), (43, c_ref11_Next)] L_ref12_RowRight Ls_ref12_RowRight B_ref12_RowRight Tryz.f30 [(.list (.st .tree))] [.bool] x = g_ref12_RowRight x := by kernel_rfl
theorem ok_ref12_RowRight : ConOK Tryz.prog 30 c_ref12_RowRight := con_ok (ConsOK.cons ok_ref11_Start (ConsOK.cons ok_ref12_between (ConsOK.cons ok_ref11_Next (ConsOK.nil)))) L_ref12_RowRight Ls_ref12_RowRight (B := B_ref12_RowRight) (BodiesOK.nil) Tryz.func30 rfl fun x y hf h => (run_ref12_RowRight x).trans (eq_ref12_RowRight x y hf h)
noncomputable def L_ref12_RowOn : List (Nat × LD) := [(4, ⟨⟨[(0, .hole (.list (.st .tree))), (1, .hole .i), (3, .hole .i), (9, .hole .i)], [], []⟩, [(.ret, ⟨[(8, .hole .bool)], [], []⟩), (.exit 0, ⟨[], [], []⟩)], 30, [1000000]⟩)]
noncomputable def Ls_ref12_RowOn : List (Nat × List (Nat × LD)) := []
noncomputable def B_ref12_RowOn : Bodies := []
theorem run_ref12_RowOn (x : denL [(.list (.st .tree)), .i, .i, .i]) : run [(59, c_ref09_Find)] L_ref12_RowOn Ls_ref12_RowOn B_ref12_RowOn Tryz.f37 [(.list (.st .tree)), .i, .i, .i] [.bool] x = g_ref12_RowOn x := by kernel_rfl
theorem ok_ref12_RowOn : ConOK Tryz.prog 37 c_ref12_RowOn := con_ok (ConsOK.cons ok_ref09_Find (ConsOK.nil)) L_ref12_RowOn Ls_ref12_RowOn (B := B_ref12_RowOn) (BodiesOK.nil) Tryz.func37 rfl fun x y hf h => (run_ref12_RowOn x).trans (eq_ref12_RowOn x y hf h)
noncomputable def L_ref12_RowExcused : List (Nat × LD) := [(4, ⟨⟨[(0, .hole (.list (.st .tree))), (2, .hole .i), (3, .hole .i), (28, .hole (.list (.st .reveal))), (29, .hole .i), (30, .hole .i)], [], []⟩, [(.ret, ⟨[(8, .hole .bool)], [], []⟩), (.exit 0, ⟨[], [], []⟩)], 31, [1000000]⟩)]
noncomputable def Ls_ref12_RowExcused : List (Nat × List (Nat × LD)) := []
noncomputable def B_ref12_RowExcused : Bodies := []
theorem run_ref12_RowExcused (x : denL [(.list (.st .tree)), (.list (.st .reveal)), .i, .i]) : run [(37, c_ref12_RowOn), (59, c_ref09_Find), (45, c_ref01_Leaf), (63, c_ref01_Below)] L_ref12_RowExcused Ls_ref12_RowExcused B_ref12_RowExcused Tryz.f42 [(.list (.st .tree)), (.list (.st .reveal)), .i, .i] [.bool] x = g_ref12_RowExcused x := by kernel_rfl
theorem ok_ref12_RowExcused : ConOK Tryz.prog 42 c_ref12_RowExcused := con_ok (ConsOK.cons ok_ref12_RowOn (ConsOK.cons ok_ref09_Find (ConsOK.cons ok_ref01_Leaf (ConsOK.cons ok_ref01_Below (ConsOK.nil))))) L_ref12_RowExcused Ls_ref12_RowExcused (B := B_ref12_RowExcused) (BodiesOK.nil) Tryz.func42 rfl fun x y hf h => (run_ref12_RowExcused x).trans (eq_ref12_RowExcused x y hf h)
noncomputable def L_ref22_Play : List (Nat × LD) := []
noncomputable def Ls_ref22_Play : List (Nat × List (Nat × LD)) := []
noncomputable def B_ref22_Play : Bodies := []
theorem run_ref22_Play (x : denL [(.list (.st .batch))]) : run [(28, c_ref12_RowPlay)] L_ref22_Play Ls_ref22_Play B_ref22_Play Tryz.f10 [(.list (.st .batch))] [(.list (.st .tree)), (.list .i)] x = g_ref22_Play x := by kernel_rfl
theorem ok_ref22_Play : ConOK Tryz.prog 10 c_ref22_Play := con_ok (ConsOK.cons ok_ref12_RowPlay (ConsOK.nil)) L_ref22_Play Ls_ref22_Play (B := B_ref22_Play) (BodiesOK.nil) Tryz.func10 rfl fun x y hf h => (run_ref22_Play x).trans (eq_ref22_Play x y hf h)
noncomputable def L_ref22_Right : List (Nat × LD) := []
noncomputable def Ls_ref22_Right : List (Nat × List (Nat × LD)) := []
noncomputable def B_ref22_Right : Bodies := []
theorem run_ref22_Right (x : denL [(.list (.st .tree))]) : run [(30, c_ref12_RowRight)] L_ref22_Right Ls_ref22_Right B_ref22_Right Tryz.f15 [(.list (.st .tree))] [.bool] x = g_ref22_Right x := by kernel_rfl
theorem ok_ref22_Right : ConOK Tryz.prog 15 c_ref22_Right := con_ok (ConsOK.cons ok_ref12_RowRight (ConsOK.nil)) L_ref22_Right Ls_ref22_Right (B := B_ref22_Right) (BodiesOK.nil) Tryz.func15 rfl fun x y hf h => (run_ref22_Right x).trans (eq_ref22_Right x y hf h)
noncomputable def L_ref22_On : List (Nat × LD) := []
noncomputable def Ls_ref22_On : List (Nat × List (Nat × LD)) := []
noncomputable def B_ref22_On : Bodies := []
theorem run_ref22_On (x : denL [(.list (.st .tree)), .i, .i, .i]) : run [(37, c_ref12_RowOn)] L_ref22_On Ls_ref22_On B_ref22_On Tryz.f20 [(.list (.st .tree)), .i, .i, .i] [.bool] x = g_ref22_On x := by kernel_rfl
theorem ok_ref22_On : ConOK Tryz.prog 20 c_ref22_On := con_ok (ConsOK.cons ok_ref12_RowOn (ConsOK.nil)) L_ref22_On Ls_ref22_On (B := B_ref22_On) (BodiesOK.nil) Tryz.func20 rfl fun x y hf h => (run_ref22_On x).trans (eq_ref22_On x y hf h)
noncomputable def L_ref22_Excused : List (Nat × LD) := []
noncomputable def Ls_ref22_Excused : List (Nat × List (Nat × LD)) := []
noncomputable def B_ref22_Excused : Bodies := []
theorem run_ref22_Excused (x : denL [(.list (.st .tree)), (.list (.st .reveal)), .i, .i]) : run [(42, c_ref12_RowExcused)] L_ref22_Excused Ls_ref22_Excused B_ref22_Excused Tryz.f22 [(.list (.st .tree)), (.list (.st .reveal)), .i, .i] [.bool] x = g_ref22_Excused x := by kernel_rfl
theorem ok_ref22_Excused : ConOK Tryz.prog 22 c_ref22_Excused := con_ok (ConsOK.cons ok_ref12_RowExcused (ConsOK.nil)) L_ref22_Excused Ls_ref22_Excused (B := B_ref22_Excused) (BodiesOK.nil) Tryz.func22 rfl fun x y hf h => (run_ref22_Excused x).trans (eq_ref22_Excused x y hf h)
noncomputable def L_ref22_Same : List (Nat × LD) := [(4, ⟨⟨[(0, .hole (.list (.st .reveal))), (1, .hole (.list (.st .reveal))), (12, .hole .i), (13, .hole .i)], [], []⟩, [(.ret, ⟨[(4, .hole .bool)], [], []⟩), (.exit 0, ⟨[], [], []⟩)], 30, [1000000]⟩)]
noncomputable def Ls_ref22_Same : List (Nat × List (Nat × LD)) := []
noncomputable def B_ref22_Same : Bodies := []
theorem run_ref22_Same (x : denL [(.list (.st .reveal)), (.list (.st .reveal))]) : run [] L_ref22_Same Ls_ref22_Same B_ref22_Same Tryz.f18 [(.list (.st .reveal)), (.list (.st .reveal))] [.bool] x = g_ref22_Same x := by kernel_rfl
theorem ok_ref22_Same : ConOK Tryz.prog 18 c_ref22_Same := con_ok (ConsOK.nil) L_ref22_Same Ls_ref22_Same (B := B_ref22_Same) (BodiesOK.nil) Tryz.func18 rfl fun x y hf h => (run_ref22_Same x).trans (eq_ref22_Same x y hf h)
noncomputable def L_ref22_SameRow : List (Nat × LD) := [(4, ⟨⟨[(0, .hole (.list (.st .tree))), (1, .hole (.list (.st .tree))), (12, .hole .i), (13, .hole .i)], [], []⟩, [(.ret, ⟨[(4, .hole .bool)], [], []⟩), (.exit 0, ⟨[], [], []⟩)], 30, [1000000]⟩)]
noncomputable def Ls_ref22_SameRow : List (Nat × List (Nat × LD)) := []
noncomputable def B_ref22_SameRow : Bodies := []
theorem run_ref22_SameRow (x : denL [(.list (.st .tree)), (.list (.st .tree))]) : run [] L_ref22_SameRow Ls_ref22_SameRow B_ref22_SameRow Tryz.f11 [(.list (.st .tree)), (.list (.st .tree))] [.bool] x = g_ref22_SameRow x := by kernel_rfl
theorem ok_ref22_SameRow : ConOK Tryz.prog 11 c_ref22_SameRow := con_ok (ConsOK.nil) L_ref22_SameRow Ls_ref22_SameRow (B := B_ref22_SameRow) (BodiesOK.nil) Tryz.func11 rfl fun x y hf h => (run_ref22_SameRow x).trans (eq_ref22_SameRow x y hf h)
noncomputable def L_ref22_SameErrors : List (Nat × LD) := [(4, ⟨⟨[(0, .hole (.list .i)), (1, .hole (.list .i)), (12, .hole .i), (13, .hole .i)], [], []⟩, [(.ret, ⟨[(4, .hole .bool)], [], []⟩), (.exit 0, ⟨[], [], []⟩)], 30, [1000000]⟩)]
noncomputable def Ls_ref22_SameErrors : List (Nat × List (Nat × LD)) := []
noncomputable def B_ref22_SameErrors : Bodies := []
theorem run_ref22_SameErrors (x : denL [(.list .i), (.list .i)]) : run [] L_ref22_SameErrors Ls_ref22_SameErrors B_ref22_SameErrors Tryz.f12 [(.list .i), (.list .i)] [.bool] x = g_ref22_SameErrors x := by kernel_rfl
theorem ok_ref22_SameErrors : ConOK Tryz.prog 12 c_ref22_SameErrors := con_ok (ConsOK.nil) L_ref22_SameErrors Ls_ref22_SameErrors (B := B_ref22_SameErrors) (BodiesOK.nil) Tryz.func12 rfl fun x y hf h => (run_ref22_SameErrors x).trans (eq_ref22_SameErrors x y hf h)
end Go.Proofs.YtghlolinkmlkeaaGreatDoor
end

section
namespace Go.Proofs.YtghlolinkmlkeaaGreatDoor
open Go Go.Co Go.Co.N Go.Proofs
noncomputable def L_ref12_RowBorn : List (Nat × LD) := [(10, ⟨⟨[(3, .row (.st .reveal)), (4, .mp 2), (5, .hole .i), (6, .ptr 3 []), (7, .mp 5), (8, .hole .i), (13, .hole (.list (.st .tree))), (14, .hole .i), (15, .hole .i)], [(3, (.st .tree), .hole (.st .tree))], [(2, .i, .i), (5, .i, .i)]⟩, [(.exit 2, ⟨[(3, .row (.st .reveal)), (7, .mp 5), (13, .hole (.list (.st .tree))), (14, .hole .i), (15, .hole .i)], [(3, (.st .tree), .hole (.st .tree))], [(5, .i, .i)]⟩)], 34, [1000000, 3, 5, 2, 1]⟩), (6, ⟨⟨[(3, .row (.st .reveal)), (4, .omp .i .i), (13, .hole (.list (.st .tree))), (14, .hole .i), (15, .hole .i)], [], []⟩, [(.exit 0, ⟨[(3, .row (.st .reveal))], [], []⟩)], 200, []⟩)]
noncomputable def Ls_ref12_RowBorn : List (Nat × List (Nat × LD)) := [(56, [(7, ⟨⟨[(1, .ptr 4 []), (3, .mp 5), (5, .hole .i)], [(4, (.st .tree), .hole (.st .tree))], [(5, .i, .i)]⟩, [(.exit 2, ⟨[(3, .mp 5)], [(4, (.st .tree), .hole (.st .tree))], [(5, .i, .i)]⟩)], 30, [1000000, 4, 5]⟩), (3, ⟨⟨[(1, .ptr 4 []), (3, .mp 5), (4, .hole .i)], [(4, (.st .tree), .hole (.st .tree))], [(5, .i, .i)]⟩, [(.exit 0, ⟨[(1, .ptr 4 []), (3, .mp 5)], [(4, (.st .tree), .hole (.st .tree))], [(5, .i, .i)]⟩)], 30, [1000000, 4, 5]⟩)])]
noncomputable def B_ref12_RowBorn : Bodies := [bodyLine 56 Tryz.f56]
theorem run_ref12_RowBorn (x : denL [(.list (.st .tree))]) : run [(30, c_ref12_RowRight)] L_ref12_RowBorn Ls_ref12_RowBorn B_ref12_RowBorn Tryz.f35 [(.list (.st .tree))] [(.list (.st .reveal))] x = g_ref12_RowBorn x := by kernel_rfl
theorem ok_ref12_RowBorn : ConOK Tryz.prog 35 c_ref12_RowBorn := con_ok (ConsOK.cons ok_ref12_RowRight (ConsOK.nil)) L_ref12_RowBorn Ls_ref12_RowBorn (B := B_ref12_RowBorn) (BodiesOK.cons Tryz.func56 rfl (BodiesOK.nil)) Tryz.func35 rfl fun x y hf h => (run_ref12_RowBorn x).trans (eq_ref12_RowBorn x y hf h)
noncomputable def L_ref22_Born : List (Nat × LD) := []
noncomputable def Ls_ref22_Born : List (Nat × List (Nat × LD)) := []
noncomputable def B_ref22_Born : Bodies := []
theorem run_ref22_Born (x : denL [(.list (.st .tree))]) : run [(35, c_ref12_RowBorn)] L_ref22_Born Ls_ref22_Born B_ref22_Born Tryz.f17 [(.list (.st .tree))] [(.list (.st .reveal))] x = g_ref22_Born x := by kernel_rfl
theorem ok_ref22_Born : ConOK Tryz.prog 17 c_ref22_Born := con_ok (ConsOK.cons ok_ref12_RowBorn (ConsOK.nil)) L_ref22_Born Ls_ref22_Born (B := B_ref22_Born) (BodiesOK.nil) Tryz.func17 rfl fun x y hf h => (run_ref22_Born x).trans (eq_ref22_Born x y hf h)
end Go.Proofs.YtghlolinkmlkeaaGreatDoor
end

section
namespace Go.Proofs.YtghlolinkmlkeaaGreatDoor
open Go Go.Co Go.Co.N Go.Proofs

/-! ### The piece -/
noncomputable def bornLs : List (Nat × List (Nat × LD)) := [(31, [(8, ⟨⟨[(3, .mp 5), (21, .hole (.arr 64 (.st .entry))), (22, .hole .i)], [], [(5, .i, .i)]⟩, [(.exit 2, ⟨[(3, .mp 5)], [], [(5, .i, .i)]⟩)], 11, [1000000, 5]⟩), (3, ⟨⟨[(1, .ptr 4 []), (3, .mp 5), (10, .hole (.arr 21 (.st .key))), (11, .hole .i)], [(4, (.st .tree), .hole (.st .tree))], [(5, .i, .i)]⟩, [(.exit 0, ⟨[(1, .ptr 4 []), (3, .mp 5)], [(4, (.st .tree), .hole (.st .tree))], [(5, .i, .i)]⟩)], 11, [1000000, 4, 5]⟩)])]
noncomputable def bornL : List (Nat × LD) := [(6, ⟨⟨[(3, .row (.st .reveal)), (4, .omp .i .i), (14, .hole (.list (.st .tree))), (15, .hole .i), (16, .hole .i)], [], []⟩, [(.exit 0, ⟨[(3, .row (.st .reveal))], [], []⟩)], 80, []⟩)]
noncomputable def bornB : Bodies := [bodyLine 31 Tryz.f31]
noncomputable abbrev bornE0 : EE := EF [(13, c_history_Right)] [] bornLs bornB 4 bornL
noncomputable def bornE : EE := { bornE0 with sp := fun i => match Nat.beq i 10 with | true => some bornH | false => Option.none }
noncomputable def pieceB : Code := (hits 10 (body Tryz.f16)).headD .skip
noncomputable def rB (i : Nat) : Array Oper := regOps i pieceB
noncomputable def oB (i j : Nat) : Oper := (rB i).getD j default
noncomputable def restB : Code := .seq (.region 13 (rB 13) false) (.cond (.tmp 34) (.region 14 (rB 14) false) .skip)
noncomputable def endB : Code := .seq (.region 15 (rB 15) false) (.region 16 (rB 16) false)
noncomputable def loopB : Code := .seq (.region 10 (rB 10) false) (.block 2 (.loop (.seq (.region 11 (rB 11) false) (.seq (.cond (.tmp 28) .skip (.exit 2)) (.block 3 (.seq (.region 12 (rB 12) false) restB))))))
theorem piece_eq : hits 10 (body Tryz.f16) = [.seq loopB endB] := by kernel_rfl
theorem ops10 : (rB 10).toList = [oB 10 0, oB 10 1] := by kernel_rfl
theorem ops11 : (rB 11).toList = [oB 11 0, oB 11 1] := by kernel_rfl
theorem ops12 : (rB 12).toList = [oB 12 0, oB 12 1, oB 12 2] := by kernel_rfl
theorem hgsB : ∀ o ∈ [oB 10 0, oB 10 1, oB 11 0, oB 11 1, oB 12 0, oB 12 1, oB 12 2], o.guard = Option.none := by
  have h : [oB 10 0, oB 10 1, oB 11 0, oB 11 1, oB 12 0, oB 12 1, oB 12 2].all (fun o => o.guard.isNone) = true := by kernel_rfl
  intro o ho
  have := List.all_eq_true.1 h o ho
  simpa using this
theorem round_run (lw : List (Int × Int)) (i fr : Int) (ts : List Co.Tree) (len idx : Int) (xs : List Co.Reveal) (x : Int × Int) :
    evC bornE0 48 restB bornD.den ⟨putD (putD (mkD bornD 30 31 ((xs, (), i, (), fr, ts, len, idx, (), ()), (), lw, ())).slots (some 30) (.val .i x.1)) (some 9) (.val .i x.1), (mkD bornD 30 31 ((xs, (), i, (), fr, ts, len, idx, (), ()), (), lw, ())).mem, 31⟩ (rngK bornD 30 29) = born_round lw i fr ts len idx xs x := by kernel_rfl
theorem end_run (ln lw : List (Int × Int)) (i fr : Int) (ts : List Co.Tree) (len idx : Int) (xs : List Co.Reveal) (xs0 : List Co.Reveal) :
    evC bornE0 48 endB bornO.den (keepS (fun x => Nat.beq x 5) (mkD bornI 28 29 ((xs0, (), i, (), fr, ts, len, idx, ()), (), lw, ln, ())).mem (mkD bornD 30 31 ((xs, (), i, (), fr, ts, len, idx, (), ()), (), lw, ()))) (rngO 60) = born_end ln fr ts len idx xs := by kernel_rfl
theorem start_run (ln lw : List (Int × Int)) (i fr : Int) (ts : List Co.Tree) (len idx : Int) (xs : List Co.Reveal) :
    rdD bornD 30 ⟨putD (putD (mkD bornI 28 29 ((xs, (), i, (), fr, ts, len, idx, ()), (), lw, ln, ())).slots (some 25) (.mp 5)) (some 26) (.ptr 29 []), (dropS (fun x => Nat.beq x 5) (mkD bornI 28 29 ((xs, (), i, (), fr, ts, len, idx, ()), (), lw, ln, ()))).mem, 30⟩ = some ((xs, (), i, (), fr, ts, len, idx, (), ()), (), lw, ()) := by kernel_rfl
theorem piece_ok {C : Ctx} (hP : C.P = Tryz.prog) (hc : ConOK Tryz.prog 13 c_history_Right) : ∀ p ∈ hits 10 (body Tryz.f16), ∀ R s K y, bornH R s K = some y → ∃ s', Tri Tryz.prog C 48 p s .normal s' ∧ K s' = some y := by
  intro p hp R s K y hs
  rw [piece_eq, List.mem_singleton] at hp
  subst hp
  obtain ⟨hnx, xs, i, fr, ts, len, idx, lw, ln, hrd, hfr, hb1, hk⟩ := bornH_some hs
  have hE : EOK Tryz.prog C bornE0 := EF_ok (ConsOK.cons hc ConsOK.nil) bornLs (BodiesOK.cons Tryz.func31 rfl BodiesOK.nil) C hP 4 bornL
  have hlp : LpOK Tryz.prog C 48 bornE0 := lpM_ok (EF_lp bornLs bornB 4 bornL)
  have h0 : ∀ q, bornE0.sp q = Option.none := EF_sp bornLs bornB 4 bornL
  refine ⟨_, ⟨by rw [hnx]; show 28 ≤ 60; omega, fun U e a Q hu hf hq => ?_⟩, hk⟩
  rw [hnx] at hu
  have hu : free U 28 60 := hu
  obtain ⟨e1, hw1, hx1, hfr1, hf1⟩ := refit hf (U0 := U) (fun x h => .inl h) hf.mem.nx (fun x h1 h2 => hu x h1 (by have : bornI.rows = 1 := rfl; omega)) (Ext.refl e) (Frm.refl e _) hrd 29
  rw [← hw1]
  have hrI : bornI.rows = 1 := rfl
  have hrD : bornD.rows = 1 := rfl
  refine wp_seq (range_wp (P := Tryz.prog) (C := C) (n := 48) (r10 := rB 10) (r11 := rB 11) (r12 := rB 12) (i10 := 10) (i11 := 11) (i12 := 12) (j := 2) (k := 3) (dm := 7) (d25 := 25) (d26 := 26) (d27 := 27) (d28 := 28) (d29 := 29) (d30 := 30) (d9 := 9) (tm := 73) (rest := restB) (kid := 3) (eid := 3)
    ops10 ops11 ops12 hgsB (by kernel_rfl) (by kernel_rfl) (by kernel_rfl) (by kernel_rfl) (by kernel_rfl) (by kernel_rfl) (by kernel_rfl) (by kernel_rfl) (by kernel_rfl) (by kernel_rfl) (by kernel_rfl) (by kernel_rfl) (by kernel_rfl) (by kernel_rfl)
    ⟨by omega, by omega, by omega, by omega, by omega, by omega, by omega⟩ ⟨by omega, by omega⟩ Tryz.underlying73
    (D := bornD) (s := mkD bornI 28 29 ((xs, (), i, (), fr, ts, len, idx, ()), (), lw, ln, ())) (b := 5) (room := 29) (kt := .i) (vt := .i) (l := ln) (fun done => ((xs ++ pickB22 lw i done, (), i, (), fr, ts, len, idx, (), ()), (), lw, ()))
    rfl rfl ((start_run ln lw i fr ts len idx xs).trans (by simp [pickB22]; rfl)) (evC_ok hE rfl hlp h0 restB) ?_ (fun y => ⟨rfl, rfl, rfl⟩) (fun y => rfl) (by rw [hrD]; omega) (U := taken U 28 (28 + bornI.rows)) (e := e1) (a := a) ?_ hf1 ?_)
  · intro done x hperm
    exact (round_run lw i fr ts len idx (xs ++ pickB22 lw i done) x).trans (born_round_ok hperm hb1)
  · intro x h1 h2 h3
    have h1 : 29 ≤ x := h1
    have h2 : x < 59 := h2
    rcases h3 with h3 | h3
    · exact hu x (by omega) (by omega) h3
    · rw [hrI] at h3; omega
  · intro π e2 a2 hπ hf2 hx2 hfr2
    have hend := end_run ln lw i fr ts len idx (xs ++ pickB22 lw i π) xs
    rw [born_end_ok hπ hfr] at hend
    obtain ⟨r, s2, ht, hk⟩ := evC_ok hE rfl hlp h0 endB _ _ _ _ hend
    obtain ⟨rfl, hnx2, hrd2⟩ := rngO_some hk
    have hle2 : 31 ≤ s2.nx := ht.1
    refine ht.2 _ e2 a2 _ (fun x h1 h2 h3 => ?_) hf2 fun e3 a3 q1 q2 q3 => ?_
    · have h1 : 31 ≤ x := h1
      rcases h3 with (h3 | h3) | h3
      · exact hu x (by omega) (by omega) h3
      · rw [hrI] at h3; omega
      · have : x < 29 + 1 + 1 := h3.2
        omega
    · obtain ⟨e4, p1, p2, p3, p4⟩ := refit q1 (U0 := U) (fun x hx => by
        rcases hx with ((hx | hx) | hx) | hx
        · exact .inl hx
        · exact .inr hx.1
        · have : 29 ≤ x := hx.1
          exact .inr (by omega)
        · have : 31 ≤ x := hx.1
          exact .inr (by omega)) hf.mem.nx (fun x h1 h2 => hu x h1 (by have : bornO.rows = 2 := rfl; omega)) (hx1.trans (hx2.trans q2)) (hfr1.trans (hfr2.trans q3)) hrd2 60
      have hw := hq e4 a3 (p4.widen fun x hx => by
        rcases hx with hx | hx
        · exact .inl hx
        · refine .inr ⟨by rw [hnx]; exact hx.1, ?_⟩
          have : bornO.rows = 2 := rfl
          show x < 60
          omega) p2 p3
      rw [p1] at hw
      exact hw
end Go.Proofs.YtghlolinkmlkeaaGreatDoor
end

section
namespace Go.Proofs.YtghlolinkmlkeaaGreatDoor
open Go Go.Co Go.Co.N Go.Proofs
theorem run_history_Born (x : denL [(.list (.st .tree))]) : evF bornE Tryz.f16 (body Tryz.f16) [(.list (.st .tree))] x (retK T Tryz.f16.results.toList [(.list (.st .reveal))]) = g_history_Born x := by kernel_rfl
theorem ok_history_Born : ConOK Tryz.prog 16 c_history_Born := by
  have hs : shapeOK Tryz.f16 c_history_Born = true := by kernel_rfl
  simp only [shapeOK, Bool.and_eq_true, Bool.not_eq_true'] at hs
  obtain ⟨⟨⟨⟨h1, h2⟩, h3⟩, h4⟩, h5⟩ := hs
  obtain ⟨b, hb⟩ := Option.isSome_iff_exists.1 h1
  have hbb : body Tryz.f16 = b := by unfold body; rw [hb]
  refine con_of Tryz.func16 hb h2 (E := bornE) (fun C hP => ?_) (fun C _ => lpM_ok (show bornE.lp = lpM bornL from EF_lp (con := [(13, c_history_Right)]) (fr := []) bornLs bornB 4 bornL)) (fun C hP => SpOK.hits (id := 10) (h := bornH) rfl b (by have := piece_ok hP ok_history_Right; rwa [hbb] at this)) rfl h3 h4 h5 fun x y hf hxy => ?_
  · have h : EOK Tryz.prog C bornE0 := EF_ok (ConsOK.cons ok_history_Right ConsOK.nil) bornLs (BodiesOK.cons Tryz.func31 rfl BodiesOK.nil) C hP 4 bornL
    exact ⟨h.1, h.2, h.3, h.4, h.5⟩
  · have := (run_history_Born x).trans (eq_history_Born x y hf hxy)
    rwa [hbb] at this
end Go.Proofs.YtghlolinkmlkeaaGreatDoor
end

section
namespace Go.Proofs.YtghlolinkmlkeaaGreatDoor
open Go Go.Co Go.Co.N Go.Proofs
noncomputable def L_law22_lives : List (Nat × LD) := []
noncomputable def Ls_law22_lives : List (Nat × List (Nat × LD)) := []
noncomputable def B_law22_lives : Bodies := []
theorem run_law22_lives (x : denL []) : run [(9, c_history_Play), (13, c_history_Right), (19, c_history_On), (21, c_history_Excused), (16, c_history_Born)] L_law22_lives Ls_law22_lives B_law22_lives Tryz.f8 [] [.bool] x = g_law22_lives x := by kernel_rfl
theorem ok_law22_lives : ConOK Tryz.prog 8 c_law22_lives := con_ok (ConsOK.cons ok_history_Play (ConsOK.cons ok_history_Right (ConsOK.cons ok_history_On (ConsOK.cons ok_history_Excused (ConsOK.cons ok_history_Born (ConsOK.nil)))))) L_law22_lives Ls_law22_lives (B := B_law22_lives) (BodiesOK.nil) Tryz.func8 rfl fun x y hf h => (run_law22_lives x).trans (eq_law22_lives x y hf h)
end Go.Proofs.YtghlolinkmlkeaaGreatDoor
end

section
namespace Go.Proofs.YtghlolinkmlkeaaGreatDoor
open Go Go.Co Go.Co.N Go.Proofs
noncomputable def LF_history_Play : List (Nat × LD) := [(5, ⟨⟨[(4, .ptr 0 []), (5, .row (.st .tree)), (6, .row .i), (18, .hole (.list (.st .batch))), (19, .hole .i), (20, .hole .i)], [(0, (.st .tree), .hole (.st .tree))], []⟩, [(.exit 0, ⟨[(5, .row (.st .tree)), (6, .row .i)], [(0, (.st .tree), .hole (.st .tree))], []⟩)], 41, [1000000, 0, 1, 2]⟩)]
noncomputable def LsF_history_Play : List (Nat × List (Nat × LD)) := []
noncomputable def BF_history_Play : Bodies := []
theorem frun_history_Play (x : denL [(.list (.st .batch))]) : frun [(26, c_keytree_Start), (27, c_plan_Next)] [] LF_history_Play LsF_history_Play BF_history_Play Tryz.f9 [(.list (.st .batch))] [(.list (.st .tree)), (.list .i)] x = g_history_Play x := by kernel_rfl
theorem fok_history_Play : FConOK Tryz.prog 9 c_history_Play := fcon_ok (FConsOK.cons rfl ok_keytree_Start (FConsOK.cons rfl ok_plan_Next (FConsOK.nil))) LF_history_Play LsF_history_Play (B := BF_history_Play) (BodiesOK.nil) Tryz.func9 rfl fun x y hf h => (frun_history_Play x).trans (eq_history_Play x y hf h)
noncomputable def L_law22_HistoryPlays : List (Nat × LD) := [(9, ⟨⟨[(3, .row (.st .tree)), (4, .row .i), (5, .row (.st .tree)), (6, .row .i), (7, .hole (.list (.st .tree))), (8, .hole (.list .i)), (56, .hole .i), (57, .hole .i)], [], []⟩, [(.exit 0, ⟨[(3, .row (.st .tree)), (4, .row .i), (5, .row (.st .tree)), (6, .row .i), (7, .hole (.list (.st .tree))), (8, .hole (.list .i))], [], []⟩)], 14, []⟩), (14, ⟨⟨[(3, .row (.st .tree)), (4, .row .i), (5, .row (.st .tree)), (6, .row .i), (7, .hole (.list (.st .tree))), (8, .hole (.list .i)), (66, .hole .i), (67, .hole .i)], [], []⟩, [(.exit 2, ⟨[(3, .row (.st .tree)), (4, .row .i), (5, .row (.st .tree)), (6, .row .i), (7, .hole (.list (.st .tree))), (8, .hole (.list .i))], [], []⟩)], 14, []⟩)]
noncomputable def Ls_law22_HistoryPlays : List (Nat × List (Nat × LD)) := []
noncomputable def B_law22_HistoryPlays : Bodies := []
theorem run_law22_HistoryPlays (x : denL [(.list (.st .batch))]) : runF [(8, c_law22_lives), (9, c_history_Play), (10, c_ref22_Play), (11, c_ref22_SameRow), (12, c_ref22_SameErrors), (13, c_history_Right)] [9] L_law22_HistoryPlays Ls_law22_HistoryPlays B_law22_HistoryPlays Tryz.f3 [(.list (.st .batch))] [.bool] x = g_law22_HistoryPlays x := by kernel_rfl
theorem ok_law22_HistoryPlays : ConOK Tryz.prog 3 c_law22_HistoryPlays := con_okF (FConsOK.cons rfl ok_law22_lives (FConsOK.fcons rfl fok_history_Play (FConsOK.cons rfl ok_ref22_Play (FConsOK.cons rfl ok_ref22_SameRow (FConsOK.cons rfl ok_ref22_SameErrors (FConsOK.cons rfl ok_history_Right (FConsOK.nil))))))) L_law22_HistoryPlays Ls_law22_HistoryPlays (B := B_law22_HistoryPlays) (BodiesOK.nil) Tryz.func3 rfl fun x y hf h => (run_law22_HistoryPlays x).trans (eq_law22_HistoryPlays x y hf h)
end Go.Proofs.YtghlolinkmlkeaaGreatDoor
end

section
namespace Go.Proofs.YtghlolinkmlkeaaGreatDoor
open Go Go.Co Go.Co.N Go.Proofs
noncomputable def LF_ref12_RowPlay : List (Nat × LD) := [(4, ⟨⟨[(4, .row (.st .tree)), (5, .row .i), (14, .hole (.list (.st .batch))), (15, .hole .i), (16, .hole .i)], [], []⟩, [(.exit 0, ⟨[(4, .row (.st .tree)), (5, .row .i)], [], []⟩)], 40, [1000000, 0]⟩)]
noncomputable def LsF_ref12_RowPlay : List (Nat × List (Nat × LD)) := []
noncomputable def BF_ref12_RowPlay : Bodies := []
theorem frun_ref12_RowPlay (x : denL [(.list (.st .batch))]) : frun [(49, c_ref11_Start), (43, c_ref11_Next)] [] LF_ref12_RowPlay LsF_ref12_RowPlay BF_ref12_RowPlay Tryz.f28 [(.list (.st .batch))] [(.list (.st .tree)), (.list .i)] x = g_ref12_RowPlay x := by kernel_rfl
theorem fok_ref12_RowPlay : FConOK Tryz.prog 28 c_ref12_RowPlay := fcon_ok (FConsOK.cons rfl ok_ref11_Start (FConsOK.cons rfl ok_ref11_Next (FConsOK.nil))) LF_ref12_RowPlay LsF_ref12_RowPlay (B := BF_ref12_RowPlay) (BodiesOK.nil) Tryz.func28 rfl fun x y hf h => (frun_ref12_RowPlay x).trans (eq_ref12_RowPlay x y hf h)
noncomputable def LF_ref22_Play : List (Nat × LD) := []
noncomputable def LsF_ref22_Play : List (Nat × List (Nat × LD)) := []
noncomputable def BF_ref22_Play : Bodies := []
theorem frun_ref22_Play (x : denL [(.list (.st .batch))]) : frun [(28, c_ref12_RowPlay)] [28] LF_ref22_Play LsF_ref22_Play BF_ref22_Play Tryz.f10 [(.list (.st .batch))] [(.list (.st .tree)), (.list .i)] x = g_ref22_Play x := by kernel_rfl
theorem fok_ref22_Play : FConOK Tryz.prog 10 c_ref22_Play := fcon_ok (FConsOK.fcons rfl fok_ref12_RowPlay (FConsOK.nil)) LF_ref22_Play LsF_ref22_Play (B := BF_ref22_Play) (BodiesOK.nil) Tryz.func10 rfl fun x y hf h => (frun_ref22_Play x).trans (eq_ref22_Play x y hf h)
noncomputable def L_law22_row : List (Nat × LD) := [(3, ⟨⟨[(1, .ptr 0 []), (3, .row (.st .tree)), (14, .hole (.list .i)), (15, .hole .i), (16, .hole .i)], [(0, (.st .turned), .hole (.st .turned))], []⟩, [(.exit 0, ⟨[(3, .row (.st .tree))], [], []⟩)], 11, []⟩)]
noncomputable def Ls_law22_row : List (Nat × List (Nat × LD)) := []
noncomputable def B_law22_row : Bodies := []
theorem run_law22_row (x : denL [(.st .turned)]) : runF [(10, c_ref22_Play)] [10] L_law22_row Ls_law22_row B_law22_row Tryz.f14 [(.st .turned)] [(.list (.st .tree))] x = g_law22_row x := by kernel_rfl
theorem ok_law22_row : ConOK Tryz.prog 14 c_law22_row := con_okF (FConsOK.fcons rfl fok_ref22_Play (FConsOK.nil)) L_law22_row Ls_law22_row (B := B_law22_row) (BodiesOK.nil) Tryz.func14 rfl fun x y hf h => (run_law22_row x).trans (eq_law22_row x y hf h)
end Go.Proofs.YtghlolinkmlkeaaGreatDoor
end

section
namespace Go.Proofs.YtghlolinkmlkeaaGreatDoor
open Go Go.Co Go.Co.N Go.Proofs
theorem frun_history_Born (x : denL [(.list (.st .tree))]) : evF bornE Tryz.f16 (body Tryz.f16) [(.list (.st .tree))] x (retF T Tryz.f16.results.toList [(.list (.st .reveal))]) = g_history_Born x := by kernel_rfl
theorem fok_history_Born : FConOK Tryz.prog 16 c_history_Born := by
  have hs : fshapeOK Tryz.f16 c_history_Born = true := by kernel_rfl
  simp only [fshapeOK, Bool.and_eq_true, Bool.not_eq_true'] at hs
  obtain ⟨⟨⟨⟨h1, h2⟩, h3⟩, h4⟩, h5⟩ := hs
  obtain ⟨b, hb⟩ := Option.isSome_iff_exists.1 h1
  have hbb : body Tryz.f16 = b := by unfold body; rw [hb]
  refine fcon_of Tryz.func16 hb h2 (E := bornE) (fun C hP => ?_) (fun C _ => lpM_ok (show bornE.lp = lpM bornL from EF_lp (con := [(13, c_history_Right)]) (fr := []) bornLs bornB 4 bornL)) (fun C hP => SpOK.hits (id := 10) (h := bornH) rfl b (by have := piece_ok hP ok_history_Right; rwa [hbb] at this)) rfl h3 h4 h5 fun x y hf hxy => ?_
  · have h : EOK Tryz.prog C bornE0 := EF_ok (ConsOK.cons ok_history_Right ConsOK.nil) bornLs (BodiesOK.cons Tryz.func31 rfl BodiesOK.nil) C hP 4 bornL
    exact ⟨h.1, h.2, h.3, h.4, h.5⟩
  · have := (frun_history_Born x).trans (eq_history_Born x y hf hxy)
    rwa [hbb] at this
end Go.Proofs.YtghlolinkmlkeaaGreatDoor
end

section
namespace Go.Proofs.YtghlolinkmlkeaaGreatDoor
open Go Go.Co Go.Co.N Go.Proofs
noncomputable def L_law22_HistoryAsks : List (Nat × LD) := []
noncomputable def Ls_law22_HistoryAsks : List (Nat × List (Nat × LD)) := []
noncomputable def B_law22_HistoryAsks : Bodies := []
theorem run_law22_HistoryAsks (x : denL [(.st .ask)]) : run [(8, c_law22_lives), (14, c_law22_row), (19, c_history_On), (20, c_ref22_On), (21, c_history_Excused), (22, c_ref22_Excused), (18, c_ref22_Same)] L_law22_HistoryAsks Ls_law22_HistoryAsks B_law22_HistoryAsks Tryz.f5 [(.st .ask)] [.bool] x = g_law22_HistoryAsks x := by kernel_rfl
theorem ok_law22_HistoryAsks : ConOK Tryz.prog 5 c_law22_HistoryAsks := con_ok (ConsOK.cons ok_law22_lives (ConsOK.cons ok_law22_row (ConsOK.cons ok_history_On (ConsOK.cons ok_ref22_On (ConsOK.cons ok_history_Excused (ConsOK.cons ok_ref22_Excused (ConsOK.cons ok_ref22_Same (ConsOK.nil)))))))) L_law22_HistoryAsks Ls_law22_HistoryAsks (B := B_law22_HistoryAsks) (BodiesOK.nil) Tryz.func5 rfl fun x y hf h => (run_law22_HistoryAsks x).trans (eq_law22_HistoryAsks x y hf h)
noncomputable def L_law22_HistoryRights : List (Nat × LD) := [(11, ⟨⟨[(3, .hole (.list (.st .tree))), (4, .row (.st .tree)), (5, .row (.st .reveal)), (6, .row (.st .reveal)), (7, .hole (.list (.st .reveal))), (53, .hole .i), (54, .hole .i)], [], []⟩, [(.exit 0, ⟨[(3, .hole (.list (.st .tree))), (4, .row (.st .tree)), (5, .row (.st .reveal)), (6, .row (.st .reveal)), (7, .hole (.list (.st .reveal)))], [], []⟩)], 13, []⟩)]
noncomputable def Ls_law22_HistoryRights : List (Nat × List (Nat × LD)) := []
noncomputable def B_law22_HistoryRights : Bodies := []
theorem run_law22_HistoryRights (x : denL [(.st .turned)]) : runF [(8, c_law22_lives), (14, c_law22_row), (13, c_history_Right), (15, c_ref22_Right), (16, c_history_Born), (17, c_ref22_Born), (18, c_ref22_Same), (11, c_ref22_SameRow)] [16] L_law22_HistoryRights Ls_law22_HistoryRights B_law22_HistoryRights Tryz.f4 [(.st .turned)] [.bool] x = g_law22_HistoryRights x := by kernel_rfl
theorem ok_law22_HistoryRights : ConOK Tryz.prog 4 c_law22_HistoryRights := con_okF (FConsOK.cons rfl ok_law22_lives (FConsOK.cons rfl ok_law22_row (FConsOK.cons rfl ok_history_Right (FConsOK.cons rfl ok_ref22_Right (FConsOK.fcons rfl fok_history_Born (FConsOK.cons rfl ok_ref22_Born (FConsOK.cons rfl ok_ref22_Same (FConsOK.cons rfl ok_ref22_SameRow (FConsOK.nil))))))))) L_law22_HistoryRights Ls_law22_HistoryRights (B := B_law22_HistoryRights) (BodiesOK.nil) Tryz.func4 rfl fun x y hf h => (run_law22_HistoryRights x).trans (eq_law22_HistoryRights x y hf h)
end Go.Proofs.YtghlolinkmlkeaaGreatDoor
end

section
namespace Go.Co.N
open Go Go.Co

theorem fr_law22_HistoryAsks (x : denL [.st .ask]) (h : FrL [.st .ask] x) : c_law22_HistoryAsks.fn x = some (true, ()) := by
  obtain ⟨a, _⟩ := x
  change Co.Ask at a
  have h1 : Fr (.st .ask) a := h.1
  rw [Fr.st] at h1
  have h2 : Fr (.prod (.st .turned) (.prod (.list (.st .reveal)) (.prod .i (.prod .i (.prod .i (.prod .i .unit)))))) (a.Row, a.Seen, a.Who, a.From, a.To, a.Node, ()) := h1
  rw [Fr.prod, Fr.prod] at h2
  have h3 : a.Seen.length * 16 ≤ 140737488351232 := Fr.list.1 h2.2.1
  show guardK (decide (List.length a.Seen * 16 ≤ 140737488351232)) (some (true, ())) = _
  rw [decide_eq_true h3]; rfl
end Go.Co.N
end
