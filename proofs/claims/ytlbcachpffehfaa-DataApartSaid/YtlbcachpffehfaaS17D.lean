/-
  The program computes so: printed by a program of my own (wip/tool).
  For the claims about coterie.
-/
import Derived.Test.YtlbcachpffehfaaS17C
import Derived.Test.YtlbcachpffehfaaN17M
namespace Go.Proofs.Ytlbcachpffehfaa
open Go Go.Co Go.Co.N Go.Proofs
noncomputable def L_law17_DataApart : List (Nat × LD) := [(5, ⟨⟨[(2, .hole .i), (7, .row (.st .tree)), (30, .hole (.list (.st .batch))), (31, .hole .i), (32, .hole .i)], [], []⟩, [(.exit 0, ⟨[(2, .hole .i), (7, .row (.st .tree))], [], []⟩)], 16⟩), (20, ⟨⟨[(2, .hole .i), (7, .hole (.list (.st .tree))), (13, .hole .i), (15, .ptr 19 []), (17, .ptr 20 []), (55, .hole (.list (.st .tree))), (56, .hole .i), (57, .hole .i), (77, .hole (.list (.st .tree))), (78, .hole .i), (79, .hole .i)], [(19, (.st .member), .hole (.st .member)), (20, (.st .sealed), .hole (.st .sealed))], []⟩, [(.ret, ⟨[(6, .hole .bool)], [], []⟩), (.exit 4, ⟨[(2, .hole .i), (7, .hole (.list (.st .tree))), (15, .ptr 19 []), (17, .ptr 20 []), (55, .hole (.list (.st .tree))), (56, .hole .i), (57, .hole .i)], [(19, (.st .member), .hole (.st .member)), (20, (.st .sealed), .hole (.st .sealed))], []⟩)], 12⟩), (12, ⟨⟨[(2, .hole .i), (7, .hole (.list (.st .tree))), (55, .hole (.list (.st .tree))), (56, .hole .i), (57, .hole .i)], [], []⟩, [(.ret, ⟨[(6, .hole .bool)], [], []⟩), (.exit 2, ⟨[], [], []⟩)], 27⟩)]
noncomputable def Ls_law17_DataApart : List (Nat × List (Nat × LD)) := []
noncomputable def B_law17_DataApart : Bodies := []
theorem run_law17_DataApart (x : denL [(.st .tree), (.list (.st .batch)), .i]) : run [(7, c_law17_lives), (13, c_ref12_Next), (12, c_ref11_Stand), (8, c_data_Seal), (10, c_data_Open)] L_law17_DataApart Ls_law17_DataApart B_law17_DataApart Try.f6 [(.st .tree), (.list (.st .batch)), .i] [.bool] x = g_law17_DataApart x := by kernel_rfl
theorem ok_law17_DataApart : ConOK Try.prog 6 c_law17_DataApart := con_ok (ConsOK.cons ok_law17_lives (ConsOK.cons ok_ref12_Next (ConsOK.cons ok_ref11_Stand (ConsOK.cons ok_data_Seal (ConsOK.cons ok_data_Open (ConsOK.nil)))))) L_law17_DataApart Ls_law17_DataApart (B := B_law17_DataApart) (BodiesOK.nil) Try.func6 rfl fun x y hf h => (run_law17_DataApart x).trans (eq_law17_DataApart x y hf h)
end Go.Proofs.Ytlbcachpffehfaa
