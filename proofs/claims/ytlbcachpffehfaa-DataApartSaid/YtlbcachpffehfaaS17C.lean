/-
  The program computes so: printed by a program of my own (wip/tool).
  For the claims about coterie.
-/
import Derived.Test.YtlbcachpffehfaaS17A
import Derived.Test.YtlbcachpffehfaaN17L
namespace Go.Proofs.Ytlbcachpffehfaa
open Go Go.Co Go.Co.N Go.Proofs
noncomputable def L_key_Good : List (Nat × LD) := []
noncomputable def Ls_key_Good : List (Nat × List (Nat × LD)) := []
noncomputable def B_key_Good : Bodies := []
theorem run_key_Good (x : denL [(.st .key)]) : run [] L_key_Good Ls_key_Good B_key_Good Try.f37 [(.st .key)] [.bool] x = g_key_Good x := by kernel_rfl
theorem ok_key_Good : ConOK Try.prog 37 c_key_Good := con_ok (ConsOK.nil) L_key_Good Ls_key_Good (B := B_key_Good) (BodiesOK.nil) Try.func37 rfl fun x y hf h => (run_key_Good x).trans (eq_key_Good x y hf h)
noncomputable def L_ref02_Good : List (Nat × LD) := []
noncomputable def Ls_ref02_Good : List (Nat × List (Nat × LD)) := []
noncomputable def B_ref02_Good : Bodies := []
theorem run_ref02_Good (x : denL [(.st .key)]) : run [] L_ref02_Good Ls_ref02_Good B_ref02_Good Try.f40 [(.st .key)] [.bool] x = g_ref02_Good x := by kernel_rfl
theorem ok_ref02_Good : ConOK Try.prog 40 c_ref02_Good := con_ok (ConsOK.nil) L_ref02_Good Ls_ref02_Good (B := B_ref02_Good) (BodiesOK.nil) Try.func40 rfl fun x y hf h => (run_ref02_Good x).trans (eq_ref02_Good x y hf h)
noncomputable def L_ref02_Ahead : List (Nat × LD) := [(6, ⟨⟨[(1, .hole .i), (2, .ptr 0 []), (4, .ptr 1 []), (6, .hole .i)], [(0, (.st .key), .hole (.st .key)), (1, (.st .key), .hole (.st .key))], []⟩, [(.exit 0, ⟨[(2, .ptr 0 []), (4, .ptr 1 [])], [(0, (.st .key), .hole (.st .key)), (1, (.st .key), .hole (.st .key))], []⟩)], 10⟩)]
noncomputable def Ls_ref02_Ahead : List (Nat × List (Nat × LD)) := []
noncomputable def B_ref02_Ahead : Bodies := []
theorem run_ref02_Ahead (x : denL [(.st .key), .i]) : run [(40, c_ref02_Good)] L_ref02_Ahead Ls_ref02_Ahead B_ref02_Ahead Try.f65 [(.st .key), .i] [(.st .key), .i] x = g_ref02_Ahead x := by kernel_rfl
theorem ok_ref02_Ahead : ConOK Try.prog 65 c_ref02_Ahead := con_ok (ConsOK.cons ok_ref02_Good (ConsOK.nil)) L_ref02_Ahead Ls_ref02_Ahead (B := B_ref02_Ahead) (BodiesOK.nil) Try.func65 rfl fun x y hf h => (run_ref02_Ahead x).trans (eq_ref02_Ahead x y hf h)
noncomputable def L_ref10_Check : List (Nat × LD) := [(7, ⟨⟨[(1, .ptr 0 []), (3, .hole .i), (4, .hole .i)], [(0, (.arr 21 (.st .key)), .hole (.arr 21 (.st .key)))], []⟩, [(.ret, ⟨[(2, .hole .i)], [], []⟩), (.exit 2, ⟨[(1, .ptr 0 []), (3, .hole .i)], [(0, (.arr 21 (.st .key)), .hole (.arr 21 (.st .key)))], []⟩)], 10⟩), (2, ⟨⟨[(1, .ptr 0 []), (3, .hole .i)], [(0, (.arr 21 (.st .key)), .hole (.arr 21 (.st .key)))], []⟩, [(.ret, ⟨[(2, .hole .i)], [], []⟩), (.exit 0, ⟨[], [], []⟩)], 20⟩)]
noncomputable def Ls_ref10_Check : List (Nat × List (Nat × LD)) := []
noncomputable def B_ref10_Check : Bodies := []
theorem run_ref10_Check (x : denL [(.arr 21 (.st .key))]) : run [(40, c_ref02_Good)] L_ref10_Check Ls_ref10_Check B_ref10_Check Try.f41 [(.arr 21 (.st .key))] [.i] x = g_ref10_Check x := by kernel_rfl
theorem ok_ref10_Check : ConOK Try.prog 41 c_ref10_Check := con_ok (ConsOK.cons ok_ref02_Good (ConsOK.nil)) L_ref10_Check Ls_ref10_Check (B := B_ref10_Check) (BodiesOK.nil) Try.func41 rfl fun x y hf h => (run_ref10_Check x).trans (eq_ref10_Check x y hf h)
noncomputable def L_ref01_In : List (Nat × LD) := [(4, ⟨⟨[(0, .hole (.int .u32)), (1, .hole .i), (5, .hole .i)], [], []⟩, [(.exit 0, ⟨[(0, .hole (.int .u32))], [], []⟩)], 10⟩)]
noncomputable def Ls_ref01_In : List (Nat × List (Nat × LD)) := []
noncomputable def B_ref01_In : Bodies := []
theorem run_ref01_In (x : denL [(.int .u32), .i]) : run [] L_ref01_In Ls_ref01_In B_ref01_In Try.f48 [(.int .u32), .i] [.bool] x = g_ref01_In x := by kernel_rfl
theorem ok_ref01_In : ConOK Try.prog 48 c_ref01_In := con_ok (ConsOK.nil) L_ref01_In Ls_ref01_In (B := B_ref01_In) (BodiesOK.nil) Try.func48 rfl fun x y hf h => (run_ref01_In x).trans (eq_ref01_In x y hf h)
noncomputable def L_ref10_count : List (Nat × LD) := [(3, ⟨⟨[(0, .hole (.int .u32)), (3, .hole .i), (4, .hole .i)], [], []⟩, [(.exit 0, ⟨[(3, .hole .i)], [], []⟩)], 10⟩)]
noncomputable def Ls_ref10_count : List (Nat × List (Nat × LD)) := []
noncomputable def B_ref10_count : Bodies := []
theorem run_ref10_count (x : denL [(.int .u32)]) : run [(48, c_ref01_In)] L_ref10_count Ls_ref10_count B_ref10_count Try.f64 [(.int .u32)] [.i] x = g_ref10_count x := by kernel_rfl
theorem ok_ref10_count : ConOK Try.prog 64 c_ref10_count := con_ok (ConsOK.cons ok_ref01_In (ConsOK.nil)) L_ref10_count Ls_ref10_count (B := B_ref10_count) (BodiesOK.nil) Try.func64 rfl fun x y hf h => (run_ref10_count x).trans (eq_ref10_count x y hf h)
noncomputable def L_ref10_Turn : List (Nat × LD) := [(4, ⟨⟨[(1, .hole (.int .u32)), (2, .hole .i), (3, .ptr 0 []), (6, .ptr 1 []), (9, .hole .i)], [(0, (.arr 21 (.st .key)), .hole (.arr 21 (.st .key))), (1, (.arr 21 (.st .key)), .hole (.arr 21 (.st .key)))], []⟩, [(.ret, ⟨[(6, .ptr 1 []), (7, .hole .i), (8, .hole .i)], [(1, (.arr 21 (.st .key)), .hole (.arr 21 (.st .key)))], []⟩), (.exit 0, ⟨[(1, .hole (.int .u32)), (2, .hole .i), (3, .ptr 0 []), (6, .ptr 1 [])], [(0, (.arr 21 (.st .key)), .hole (.arr 21 (.st .key))), (1, (.arr 21 (.st .key)), .hole (.arr 21 (.st .key)))], []⟩)], 10⟩), (12, ⟨⟨[(1, .hole (.int .u32)), (2, .hole .i), (3, .ptr 0 []), (6, .ptr 1 []), (10, .hole .i), (11, .hole .i)], [(0, (.arr 21 (.st .key)), .hole (.arr 21 (.st .key))), (1, (.arr 21 (.st .key)), .hole (.arr 21 (.st .key)))], []⟩, [(.ret, ⟨[(6, .ptr 1 []), (7, .hole .i), (8, .hole .i)], [(1, (.arr 21 (.st .key)), .hole (.arr 21 (.st .key)))], []⟩), (.exit 2, ⟨[(1, .hole (.int .u32)), (2, .hole .i), (3, .ptr 0 []), (6, .ptr 1 [])], [(0, (.arr 21 (.st .key)), .hole (.arr 21 (.st .key))), (1, (.arr 21 (.st .key)), .hole (.arr 21 (.st .key)))], []⟩)], 10⟩), (17, ⟨⟨[(1, .hole (.int .u32)), (2, .hole .i), (3, .ptr 0 []), (6, .ptr 1 []), (12, .hole .i)], [(0, (.arr 21 (.st .key)), .hole (.arr 21 (.st .key))), (1, (.arr 21 (.st .key)), .hole (.arr 21 (.st .key)))], []⟩, [(.ret, ⟨[(6, .ptr 1 []), (7, .hole .i), (8, .hole .i)], [(1, (.arr 21 (.st .key)), .hole (.arr 21 (.st .key)))], []⟩), (.exit 4, ⟨[(2, .hole .i), (3, .ptr 0 []), (6, .ptr 1 [])], [(0, (.arr 21 (.st .key)), .hole (.arr 21 (.st .key))), (1, (.arr 21 (.st .key)), .hole (.arr 21 (.st .key)))], []⟩)], 11⟩)]
noncomputable def Ls_ref10_Turn : List (Nat × List (Nat × LD)) := []
noncomputable def B_ref10_Turn : Bodies := []
theorem run_ref10_Turn (x : denL [(.arr 21 (.st .key)), (.int .u32), .i]) : run [(41, c_ref10_Check), (48, c_ref01_In), (64, c_ref10_count), (65, c_ref02_Ahead)] L_ref10_Turn Ls_ref10_Turn B_ref10_Turn Try.f45 [(.arr 21 (.st .key)), (.int .u32), .i] [(.arr 21 (.st .key)), .i, .i] x = g_ref10_Turn x := by kernel_rfl
theorem ok_ref10_Turn : ConOK Try.prog 45 c_ref10_Turn := con_ok (ConsOK.cons ok_ref10_Check (ConsOK.cons ok_ref01_In (ConsOK.cons ok_ref10_count (ConsOK.cons ok_ref02_Ahead (ConsOK.nil))))) L_ref10_Turn Ls_ref10_Turn (B := B_ref10_Turn) (BodiesOK.nil) Try.func45 rfl fun x y hf h => (run_ref10_Turn x).trans (eq_ref10_Turn x y hf h)
noncomputable def L_ref10_LeafAt : List (Nat × LD) := []
noncomputable def Ls_ref10_LeafAt : List (Nat × List (Nat × LD)) := []
noncomputable def B_ref10_LeafAt : Bodies := []
theorem run_ref10_LeafAt (x : denL [(.st .entry), .i]) : run [] L_ref10_LeafAt Ls_ref10_LeafAt B_ref10_LeafAt Try.f22 [(.st .entry), .i] [(.st .key), .i] x = g_ref10_LeafAt x := by kernel_rfl
theorem ok_ref10_LeafAt : ConOK Try.prog 22 c_ref10_LeafAt := con_ok (ConsOK.nil) L_ref10_LeafAt Ls_ref10_LeafAt (B := B_ref10_LeafAt) (BodiesOK.nil) Try.func22 rfl fun x y hf h => (run_ref10_LeafAt x).trans (eq_ref10_LeafAt x y hf h)
noncomputable def L_ref01_Node : List (Nat × LD) := []
noncomputable def Ls_ref01_Node : List (Nat × List (Nat × LD)) := []
noncomputable def B_ref01_Node : Bodies := []
theorem run_ref01_Node (x : denL [.i]) : run [] L_ref01_Node Ls_ref01_Node B_ref01_Node Try.f73 [.i] [.bool] x = g_ref01_Node x := by kernel_rfl
theorem ok_ref01_Node : ConOK Try.prog 73 c_ref01_Node := con_ok (ConsOK.nil) L_ref01_Node Ls_ref01_Node (B := B_ref01_Node) (BodiesOK.nil) Try.func73 rfl fun x y hf h => (run_ref01_Node x).trans (eq_ref01_Node x y hf h)
noncomputable def L_ref01_Child : List (Nat × LD) := []
noncomputable def Ls_ref01_Child : List (Nat × List (Nat × LD)) := []
noncomputable def B_ref01_Child : Bodies := []
theorem run_ref01_Child (x : denL [.i, .i]) : run [] L_ref01_Child Ls_ref01_Child B_ref01_Child Try.f49 [.i, .i] [.i] x = g_ref01_Child x := by kernel_rfl
theorem ok_ref01_Child : ConOK Try.prog 49 c_ref01_Child := con_ok (ConsOK.nil) L_ref01_Child Ls_ref01_Child (B := B_ref01_Child) (BodiesOK.nil) Try.func49 rfl fun x y hf h => (run_ref01_Child x).trans (eq_ref01_Child x y hf h)
noncomputable def L_ref01_Parent : List (Nat × LD) := [(7, ⟨⟨[(0, .hole .i), (3, .hole .i), (4, .hole .i)], [], []⟩, [(.ret, ⟨[(2, .hole .i)], [], []⟩), (.exit 2, ⟨[(0, .hole .i), (3, .hole .i)], [], []⟩)], 10⟩), (4, ⟨⟨[(0, .hole .i), (3, .hole .i)], [], []⟩, [(.ret, ⟨[(2, .hole .i)], [], []⟩), (.exit 0, ⟨[], [], []⟩)], 20⟩)]
noncomputable def Ls_ref01_Parent : List (Nat × List (Nat × LD)) := []
noncomputable def B_ref01_Parent : Bodies := []
theorem run_ref01_Parent (x : denL [.i]) : run [(49, c_ref01_Child)] L_ref01_Parent Ls_ref01_Parent B_ref01_Parent Try.f60 [.i] [.i] x = g_ref01_Parent x := by kernel_rfl
theorem ok_ref01_Parent : ConOK Try.prog 60 c_ref01_Parent := con_ok (ConsOK.cons ok_ref01_Child (ConsOK.nil)) L_ref01_Parent Ls_ref01_Parent (B := B_ref01_Parent) (BodiesOK.nil) Try.func60 rfl fun x y hf h => (run_ref01_Parent x).trans (eq_ref01_Parent x y hf h)
noncomputable def L_ref01_Leaf : List (Nat × LD) := []
noncomputable def Ls_ref01_Leaf : List (Nat × List (Nat × LD)) := []
noncomputable def B_ref01_Leaf : Bodies := []
theorem run_ref01_Leaf (x : denL [.i]) : run [] L_ref01_Leaf Ls_ref01_Leaf B_ref01_Leaf Try.f52 [.i] [.i] x = g_ref01_Leaf x := by kernel_rfl
theorem ok_ref01_Leaf : ConOK Try.prog 52 c_ref01_Leaf := con_ok (ConsOK.nil) L_ref01_Leaf Ls_ref01_Leaf (B := B_ref01_Leaf) (BodiesOK.nil) Try.func52 rfl fun x y hf h => (run_ref01_Leaf x).trans (eq_ref01_Leaf x y hf h)
noncomputable def L_ref01_Path : List (Nat × LD) := [(6, ⟨⟨[(2, .ptr 0 []), (4, .ptr 1 []), (5, .hole .i), (6, .hole .i)], [(0, (.arr 3 .i), .hole (.arr 3 .i)), (1, (.arr 3 .i), .hole (.arr 3 .i))], []⟩, [(.exit 0, ⟨[(2, .ptr 0 []), (4, .ptr 1 [])], [(0, (.arr 3 .i), .hole (.arr 3 .i)), (1, (.arr 3 .i), .hole (.arr 3 .i))], []⟩)], 10⟩)]
noncomputable def Ls_ref01_Path : List (Nat × List (Nat × LD)) := []
noncomputable def B_ref01_Path : Bodies := []
theorem run_ref01_Path (x : denL [.i]) : run [(52, c_ref01_Leaf), (60, c_ref01_Parent)] L_ref01_Path Ls_ref01_Path B_ref01_Path Try.f43 [.i] [(.arr 3 .i), .bool] x = g_ref01_Path x := by kernel_rfl
theorem ok_ref01_Path : ConOK Try.prog 43 c_ref01_Path := con_ok (ConsOK.cons ok_ref01_Leaf (ConsOK.cons ok_ref01_Parent (ConsOK.nil))) L_ref01_Path Ls_ref01_Path (B := B_ref01_Path) (BodiesOK.nil) Try.func43 rfl fun x y hf h => (run_ref01_Path x).trans (eq_ref01_Path x y hf h)
noncomputable def L_ref01_Below : List (Nat × LD) := [(3, ⟨⟨[(0, .hole .i), (1, .hole .i)], [], []⟩, [(.exit 0, ⟨[(0, .hole .i), (1, .hole .i)], [], []⟩)], 10⟩)]
noncomputable def Ls_ref01_Below : List (Nat × List (Nat × LD)) := []
noncomputable def B_ref01_Below : Bodies := []
theorem run_ref01_Below (x : denL [.i, .i]) : run [(73, c_ref01_Node), (60, c_ref01_Parent)] L_ref01_Below Ls_ref01_Below B_ref01_Below Try.f66 [.i, .i] [.bool] x = g_ref01_Below x := by kernel_rfl
theorem ok_ref01_Below : ConOK Try.prog 66 c_ref01_Below := con_ok (ConsOK.cons ok_ref01_Node (ConsOK.cons ok_ref01_Parent (ConsOK.nil))) L_ref01_Below Ls_ref01_Below (B := B_ref01_Below) (BodiesOK.nil) Try.func66 rfl fun x y hf h => (run_ref01_Below x).trans (eq_ref01_Below x y hf h)
noncomputable def L_ref09_Right : List (Nat × LD) := []
noncomputable def Ls_ref09_Right : List (Nat × List (Nat × LD)) := []
noncomputable def B_ref09_Right : Bodies := []
theorem run_ref09_Right (x : denL [(.st .entry)]) : run [] L_ref09_Right Ls_ref09_Right B_ref09_Right Try.f59 [(.st .entry)] [.bool] x = g_ref09_Right x := by kernel_rfl
theorem ok_ref09_Right : ConOK Try.prog 59 c_ref09_Right := con_ok (ConsOK.nil) L_ref09_Right Ls_ref09_Right (B := B_ref09_Right) (BodiesOK.nil) Try.func59 rfl fun x y hf h => (run_ref09_Right x).trans (eq_ref09_Right x y hf h)
noncomputable def L_ref09_Check : List (Nat × LD) := [(8, ⟨⟨[(1, .ptr 0 []), (3, .hole .i), (4, .hole .i)], [(0, (.arr 64 (.st .entry)), .hole (.arr 64 (.st .entry)))], []⟩, [(.ret, ⟨[(2, .hole .i)], [], []⟩), (.exit 2, ⟨[(1, .ptr 0 []), (3, .hole .i)], [(0, (.arr 64 (.st .entry)), .hole (.arr 64 (.st .entry)))], []⟩)], 10⟩), (2, ⟨⟨[(1, .ptr 0 []), (3, .hole .i)], [(0, (.arr 64 (.st .entry)), .hole (.arr 64 (.st .entry)))], []⟩, [(.ret, ⟨[(2, .hole .i)], [], []⟩), (.exit 0, ⟨[], [], []⟩)], 20⟩)]
noncomputable def Ls_ref09_Check : List (Nat × List (Nat × LD)) := []
noncomputable def B_ref09_Check : Bodies := []
theorem run_ref09_Check (x : denL [(.arr 64 (.st .entry))]) : run [(59, c_ref09_Right)] L_ref09_Check Ls_ref09_Check B_ref09_Check Try.f42 [(.arr 64 (.st .entry))] [.i] x = g_ref09_Check x := by kernel_rfl
theorem ok_ref09_Check : ConOK Try.prog 42 c_ref09_Check := con_ok (ConsOK.cons ok_ref09_Right (ConsOK.nil)) L_ref09_Check Ls_ref09_Check (B := B_ref09_Check) (BodiesOK.nil) Try.func42 rfl fun x y hf h => (run_ref09_Check x).trans (eq_ref09_Check x y hf h)
noncomputable def L_ref09_Find : List (Nat × LD) := [(2, ⟨⟨[(1, .hole .i), (2, .ptr 0 []), (5, .hole .i)], [(0, (.arr 64 (.st .entry)), .hole (.arr 64 (.st .entry)))], []⟩, [(.ret, ⟨[(4, .hole .i)], [], []⟩), (.exit 0, ⟨[], [], []⟩)], 10⟩)]
noncomputable def Ls_ref09_Find : List (Nat × List (Nat × LD)) := []
noncomputable def B_ref09_Find : Bodies := []
theorem run_ref09_Find (x : denL [(.arr 64 (.st .entry)), .i]) : run [] L_ref09_Find Ls_ref09_Find B_ref09_Find Try.f21 [(.arr 64 (.st .entry)), .i] [.i] x = g_ref09_Find x := by kernel_rfl
theorem ok_ref09_Find : ConOK Try.prog 21 c_ref09_Find := con_ok (ConsOK.nil) L_ref09_Find Ls_ref09_Find (B := B_ref09_Find) (BodiesOK.nil) Try.func21 rfl fun x y hf h => (run_ref09_Find x).trans (eq_ref09_Find x y hf h)
noncomputable def L_ref11_Start : List (Nat × LD) := [(3, ⟨⟨[(0, .ptr 0 []), (1, .ptr 1 []), (2, .hole .i)], [(0, (.st .tree), .hole (.st .tree)), (1, (.st .tree), .hole (.st .tree))], []⟩, [(.exit 0, ⟨[(0, .ptr 0 []), (1, .ptr 1 [])], [(0, (.st .tree), .hole (.st .tree)), (1, (.st .tree), .hole (.st .tree))], []⟩)], 10⟩)]
noncomputable def Ls_ref11_Start : List (Nat × List (Nat × LD)) := []
noncomputable def B_ref11_Start : Bodies := []
theorem run_ref11_Start (x : denL []) : run [] L_ref11_Start Ls_ref11_Start B_ref11_Start Try.f14 [] [(.st .tree)] x = g_ref11_Start x := by kernel_rfl
theorem ok_ref11_Start : ConOK Try.prog 14 c_ref11_Start := con_ok (ConsOK.nil) L_ref11_Start Ls_ref11_Start (B := B_ref11_Start) (BodiesOK.nil) Try.func14 rfl fun x y hf h => (run_ref11_Start x).trans (eq_ref11_Start x y hf h)
noncomputable def L_ref11_Check : List (Nat × LD) := [(4, ⟨⟨[(1, .ptr 0 []), (3, .hole .i)], [(0, (.st .tree), .hole (.st .tree))], []⟩, [(.ret, ⟨[(2, .hole .i)], [], []⟩), (.exit 0, ⟨[(1, .ptr 0 [])], [(0, (.st .tree), .hole (.st .tree))], []⟩)], 10⟩), (14, ⟨⟨[(1, .ptr 0 []), (4, .hole .i), (5, .hole .i)], [(0, (.st .tree), .hole (.st .tree))], []⟩, [(.ret, ⟨[(2, .hole .i)], [], []⟩), (.exit 4, ⟨[(1, .ptr 0 []), (4, .hole .i)], [(0, (.st .tree), .hole (.st .tree))], []⟩)], 10⟩), (9, ⟨⟨[(1, .ptr 0 []), (4, .hole .i)], [(0, (.st .tree), .hole (.st .tree))], []⟩, [(.ret, ⟨[(2, .hole .i)], [], []⟩), (.exit 2, ⟨[], [], []⟩)], 20⟩)]
noncomputable def Ls_ref11_Check : List (Nat × List (Nat × LD)) := []
noncomputable def B_ref11_Check : Bodies := []
theorem run_ref11_Check (x : denL [(.st .tree)]) : run [(41, c_ref10_Check), (42, c_ref09_Check)] L_ref11_Check Ls_ref11_Check B_ref11_Check Try.f20 [(.st .tree)] [.i] x = g_ref11_Check x := by kernel_rfl
theorem ok_ref11_Check : ConOK Try.prog 20 c_ref11_Check := con_ok (ConsOK.cons ok_ref10_Check (ConsOK.cons ok_ref09_Check (ConsOK.nil))) L_ref11_Check Ls_ref11_Check (B := B_ref11_Check) (BodiesOK.nil) Try.func20 rfl fun x y hf h => (run_ref11_Check x).trans (eq_ref11_Check x y hf h)
noncomputable def L_ref11_Of : List (Nat × LD) := []
noncomputable def Ls_ref11_Of : List (Nat × List (Nat × LD)) := []
noncomputable def B_ref11_Of : Bodies := []
theorem run_ref11_Of (x : denL [(.st .tree), .i]) : run [(73, c_ref01_Node), (22, c_ref10_LeafAt)] L_ref11_Of Ls_ref11_Of B_ref11_Of Try.f67 [(.st .tree), .i] [(.st .key), .i] x = g_ref11_Of x := by kernel_rfl
theorem ok_ref11_Of : ConOK Try.prog 67 c_ref11_Of := con_ok (ConsOK.cons ok_ref01_Node (ConsOK.cons ok_ref10_LeafAt (ConsOK.nil))) L_ref11_Of Ls_ref11_Of (B := B_ref11_Of) (BodiesOK.nil) Try.func67 rfl fun x y hf h => (run_ref11_Of x).trans (eq_ref11_Of x y hf h)
noncomputable def L_ref11_PathOf : List (Nat × LD) := [(8, ⟨⟨[(2, .ptr 0 []), (4, .ptr 1 []), (6, .ptr 2 []), (7, .ptr 3 []), (9, .hole .i)], [(0, (.st .tree), .hole (.st .tree)), (1, (.arr 3 (.st .key)), .hole (.arr 3 (.st .key))), (2, (.arr 3 (.st .key)), .hole (.arr 3 (.st .key))), (3, (.arr 3 .i), .hole (.arr 3 .i))], []⟩, [(.exit 0, ⟨[(4, .ptr 1 []), (6, .ptr 2 [])], [(1, (.arr 3 (.st .key)), .hole (.arr 3 (.st .key))), (2, (.arr 3 (.st .key)), .hole (.arr 3 (.st .key)))], []⟩)], 10⟩)]
noncomputable def Ls_ref11_PathOf : List (Nat × List (Nat × LD)) := []
noncomputable def B_ref11_PathOf : Bodies := []
theorem run_ref11_PathOf (x : denL [(.st .tree), .i]) : run [(20, c_ref11_Check), (43, c_ref01_Path)] L_ref11_PathOf Ls_ref11_PathOf B_ref11_PathOf Try.f23 [(.st .tree), .i] [(.arr 3 (.st .key)), .i] x = g_ref11_PathOf x := by kernel_rfl
theorem ok_ref11_PathOf : ConOK Try.prog 23 c_ref11_PathOf := con_ok (ConsOK.cons ok_ref11_Check (ConsOK.cons ok_ref01_Path (ConsOK.nil))) L_ref11_PathOf Ls_ref11_PathOf (B := B_ref11_PathOf) (BodiesOK.nil) Try.func23 rfl fun x y hf h => (run_ref11_PathOf x).trans (eq_ref11_PathOf x y hf h)
noncomputable def L_ref11_Below : List (Nat × LD) := [(2, ⟨⟨[(1, .hole .i), (2, .ptr 0 []), (5, .hole .i)], [(0, (.arr 64 (.st .entry)), .hole (.arr 64 (.st .entry)))], []⟩, [(.ret, ⟨[(4, .hole .bool)], [], []⟩), (.exit 0, ⟨[], [], []⟩)], 10⟩)]
noncomputable def Ls_ref11_Below : List (Nat × List (Nat × LD)) := []
noncomputable def B_ref11_Below : Bodies := []
theorem run_ref11_Below (x : denL [(.arr 64 (.st .entry)), .i]) : run [(52, c_ref01_Leaf), (66, c_ref01_Below)] L_ref11_Below Ls_ref11_Below B_ref11_Below Try.f50 [(.arr 64 (.st .entry)), .i] [.bool] x = g_ref11_Below x := by kernel_rfl
theorem ok_ref11_Below : ConOK Try.prog 50 c_ref11_Below := con_ok (ConsOK.cons ok_ref01_Leaf (ConsOK.cons ok_ref01_Below (ConsOK.nil))) L_ref11_Below Ls_ref11_Below (B := B_ref11_Below) (BodiesOK.nil) Try.func50 rfl fun x y hf h => (run_ref11_Below x).trans (eq_ref11_Below x y hf h)
noncomputable def L_ref11_Stand : List (Nat × LD) := []
noncomputable def Ls_ref11_Stand : List (Nat × List (Nat × LD)) := []
noncomputable def B_ref11_Stand : Bodies := []
theorem run_ref11_Stand (x : denL [(.st .tree), .i]) : run [(20, c_ref11_Check), (21, c_ref09_Find), (22, c_ref10_LeafAt), (23, c_ref11_PathOf)] L_ref11_Stand Ls_ref11_Stand B_ref11_Stand Try.f12 [(.st .tree), .i] [(.st .member), .i] x = g_ref11_Stand x := by kernel_rfl
theorem ok_ref11_Stand : ConOK Try.prog 12 c_ref11_Stand := con_ok (ConsOK.cons ok_ref11_Check (ConsOK.cons ok_ref09_Find (ConsOK.cons ok_ref10_LeafAt (ConsOK.cons ok_ref11_PathOf (ConsOK.nil))))) L_ref11_Stand Ls_ref11_Stand (B := B_ref11_Stand) (BodiesOK.nil) Try.func12 rfl fun x y hf h => (run_ref11_Stand x).trans (eq_ref11_Stand x y hf h)
noncomputable def L_ref08_Places : List (Nat × LD) := [(3, ⟨⟨[(0, .hole (.int .u64)), (2, .ptr 0 []), (3, .ptr 1 []), (4, .hole .i)], [(0, (.arr 64 .bool), .hole (.arr 64 .bool)), (1, (.arr 64 .bool), .hole (.arr 64 .bool))], []⟩, [(.exit 0, ⟨[(2, .ptr 0 []), (3, .ptr 1 [])], [(0, (.arr 64 .bool), .hole (.arr 64 .bool)), (1, (.arr 64 .bool), .hole (.arr 64 .bool))], []⟩)], 10⟩)]
noncomputable def Ls_ref08_Places : List (Nat × List (Nat × LD)) := []
noncomputable def B_ref08_Places : Bodies := []
theorem run_ref08_Places (x : denL [(.int .u64)]) : run [] L_ref08_Places Ls_ref08_Places B_ref08_Places Try.f76 [(.int .u64)] [(.arr 64 .bool)] x = g_ref08_Places x := by kernel_rfl
theorem ok_ref08_Places : ConOK Try.prog 76 c_ref08_Places := con_ok (ConsOK.nil) L_ref08_Places Ls_ref08_Places (B := B_ref08_Places) (BodiesOK.nil) Try.func76 rfl fun x y hf h => (run_ref08_Places x).trans (eq_ref08_Places x y hf h)
noncomputable def L_ref08_Word : List (Nat × LD) := [(3, ⟨⟨[(1, .ptr 0 []), (3, .hole (.int .u64)), (4, .hole .i)], [(0, (.arr 64 .bool), .hole (.arr 64 .bool))], []⟩, [(.exit 0, ⟨[(3, .hole (.int .u64))], [], []⟩)], 10⟩)]
noncomputable def Ls_ref08_Word : List (Nat × List (Nat × LD)) := []
noncomputable def B_ref08_Word : Bodies := []
theorem run_ref08_Word (x : denL [(.arr 64 .bool)]) : run [] L_ref08_Word Ls_ref08_Word B_ref08_Word Try.f72 [(.arr 64 .bool)] [(.int .u64)] x = g_ref08_Word x := by kernel_rfl
theorem ok_ref08_Word : ConOK Try.prog 72 c_ref08_Word := con_ok (ConsOK.nil) L_ref08_Word Ls_ref08_Word (B := B_ref08_Word) (BodiesOK.nil) Try.func72 rfl fun x y hf h => (run_ref08_Word x).trans (eq_ref08_Word x y hf h)
noncomputable def L_ref08_List : List (Nat × LD) := [(4, ⟨⟨[(3, .ptr 0 []), (4, .row .i), (5, .hole .i)], [(0, (.arr 64 .bool), .hole (.arr 64 .bool))], []⟩, [(.exit 0, ⟨[(4, .row .i)], [], []⟩)], 13⟩)]
noncomputable def Ls_ref08_List : List (Nat × List (Nat × LD)) := []
noncomputable def B_ref08_List : Bodies := []
theorem run_ref08_List (x : denL [(.int .u64)]) : run [(76, c_ref08_Places)] L_ref08_List Ls_ref08_List B_ref08_List Try.f71 [(.int .u64)] [(.list .i)] x = g_ref08_List x := by kernel_rfl
theorem ok_ref08_List : ConOK Try.prog 71 c_ref08_List := con_ok (ConsOK.cons ok_ref08_Places (ConsOK.nil)) L_ref08_List Ls_ref08_List (B := B_ref08_List) (BodiesOK.nil) Try.func71 rfl fun x y hf h => (run_ref08_List x).trans (eq_ref08_List x y hf h)
noncomputable def L_ref08_Count : List (Nat × LD) := []
noncomputable def Ls_ref08_Count : List (Nat × List (Nat × LD)) := []
noncomputable def B_ref08_Count : Bodies := []
theorem run_ref08_Count (x : denL [(.int .u64)]) : run [(71, c_ref08_List)] L_ref08_Count Ls_ref08_Count B_ref08_Count Try.f62 [(.int .u64)] [.i] x = g_ref08_Count x := by kernel_rfl
theorem ok_ref08_Count : ConOK Try.prog 62 c_ref08_Count := con_ok (ConsOK.cons ok_ref08_List (ConsOK.nil)) L_ref08_Count Ls_ref08_Count (B := B_ref08_Count) (BodiesOK.nil) Try.func62 rfl fun x y hf h => (run_ref08_Count x).trans (eq_ref08_Count x y hf h)
noncomputable def L_ref09_Taken : List (Nat × LD) := [(3, ⟨⟨[(1, .ptr 0 []), (3, .ptr 1 []), (4, .hole .i)], [(0, (.arr 64 (.st .entry)), .hole (.arr 64 (.st .entry))), (1, (.arr 64 .bool), .hole (.arr 64 .bool))], []⟩, [(.exit 0, ⟨[(3, .ptr 1 [])], [(1, (.arr 64 .bool), .hole (.arr 64 .bool))], []⟩)], 10⟩)]
noncomputable def Ls_ref09_Taken : List (Nat × List (Nat × LD)) := []
noncomputable def B_ref09_Taken : Bodies := []
theorem run_ref09_Taken (x : denL [(.arr 64 (.st .entry))]) : run [(72, c_ref08_Word)] L_ref09_Taken Ls_ref09_Taken B_ref09_Taken Try.f63 [(.arr 64 (.st .entry))] [(.int .u64)] x = g_ref09_Taken x := by kernel_rfl
theorem ok_ref09_Taken : ConOK Try.prog 63 c_ref09_Taken := con_ok (ConsOK.cons ok_ref08_Word (ConsOK.nil)) L_ref09_Taken Ls_ref09_Taken (B := B_ref09_Taken) (BodiesOK.nil) Try.func63 rfl fun x y hf h => (run_ref09_Taken x).trans (eq_ref09_Taken x y hf h)
noncomputable def L_ref09_person : List (Nat × LD) := []
noncomputable def Ls_ref09_person : List (Nat × List (Nat × LD)) := []
noncomputable def B_ref09_person : Bodies := []
theorem run_ref09_person (x : denL [(.arr 64 (.st .entry)), (.arr 256 .bool), .i, .bool]) : run [(21, c_ref09_Find)] L_ref09_person Ls_ref09_person B_ref09_person Try.f61 [(.arr 64 (.st .entry)), (.arr 256 .bool), .i, .bool] [.i] x = g_ref09_person x := by kernel_rfl
theorem ok_ref09_person : ConOK Try.prog 61 c_ref09_person := con_ok (ConsOK.cons ok_ref09_Find (ConsOK.nil)) L_ref09_person Ls_ref09_person (B := B_ref09_person) (BodiesOK.nil) Try.func61 rfl fun x y hf h => (run_ref09_person x).trans (eq_ref09_person x y hf h)
noncomputable def L_ref09_Fits : List (Nat × LD) := [(5, ⟨⟨[(2, .ptr 0 []), (3, .ptr 1 []), (5, .ptr 2 []), (16, .hole (.list .i)), (17, .hole .i), (18, .hole .i)], [(0, (.arr 64 (.st .entry)), .hole (.arr 64 (.st .entry))), (1, (.st .batch), .hole (.st .batch)), (2, (.arr 256 .bool), .hole (.arr 256 .bool))], []⟩, [(.ret, ⟨[(4, .hole .i)], [], []⟩), (.exit 0, ⟨[(2, .ptr 0 []), (3, .ptr 1 []), (5, .ptr 2 [])], [(0, (.arr 64 (.st .entry)), .hole (.arr 64 (.st .entry))), (1, (.st .batch), .hole (.st .batch)), (2, (.arr 256 .bool), .hole (.arr 256 .bool))], []⟩)], 10⟩), (13, ⟨⟨[(2, .ptr 0 []), (3, .ptr 1 []), (5, .ptr 2 []), (33, .hole (.list .i)), (34, .hole .i), (35, .hole .i)], [(0, (.arr 64 (.st .entry)), .hole (.arr 64 (.st .entry))), (1, (.st .batch), .hole (.st .batch)), (2, (.arr 256 .bool), .hole (.arr 256 .bool))], []⟩, [(.ret, ⟨[(4, .hole .i)], [], []⟩), (.exit 2, ⟨[(2, .ptr 0 []), (3, .ptr 1 [])], [(0, (.arr 64 (.st .entry)), .hole (.arr 64 (.st .entry))), (1, (.st .batch), .hole (.st .batch))], []⟩)], 10⟩)]
noncomputable def Ls_ref09_Fits : List (Nat × List (Nat × LD)) := []
noncomputable def B_ref09_Fits : Bodies := []
theorem run_ref09_Fits (x : denL [(.arr 64 (.st .entry)), (.st .batch)]) : run [(42, c_ref09_Check), (61, c_ref09_person), (63, c_ref09_Taken), (62, c_ref08_Count)] L_ref09_Fits Ls_ref09_Fits B_ref09_Fits Try.f44 [(.arr 64 (.st .entry)), (.st .batch)] [.i] x = g_ref09_Fits x := by kernel_rfl
theorem ok_ref09_Fits : ConOK Try.prog 44 c_ref09_Fits := con_ok (ConsOK.cons ok_ref09_Check (ConsOK.cons ok_ref09_person (ConsOK.cons ok_ref09_Taken (ConsOK.cons ok_ref08_Count (ConsOK.nil))))) L_ref09_Fits Ls_ref09_Fits (B := B_ref09_Fits) (BodiesOK.nil) Try.func44 rfl fun x y hf h => (run_ref09_Fits x).trans (eq_ref09_Fits x y hf h)
noncomputable def L_ref09_Move : List (Nat × LD) := [(10, ⟨⟨[(2, .hole .i), (3, .hole .i), (4, .ptr 0 []), (5, .ptr 1 []), (8, .ptr 2 []), (13, .hole .i), (14, .hole .i)], [(0, (.arr 64 (.st .entry)), .hole (.arr 64 (.st .entry))), (1, (.st .batch), .hole (.st .batch)), (2, (.arr 64 (.st .entry)), .hole (.arr 64 (.st .entry)))], []⟩, [(.ret, ⟨[(8, .ptr 2 []), (9, .nils), (10, .nils), (11, .hole .i)], [(2, (.arr 64 (.st .entry)), .hole (.arr 64 (.st .entry)))], []⟩), (.exit 0, ⟨[(2, .hole .i), (3, .hole .i), (4, .ptr 0 []), (5, .ptr 1 []), (8, .ptr 2 [])], [(0, (.arr 64 (.st .entry)), .hole (.arr 64 (.st .entry))), (1, (.st .batch), .hole (.st .batch)), (2, (.arr 64 (.st .entry)), .hole (.arr 64 (.st .entry)))], []⟩)], 10⟩), (16, ⟨⟨[(2, .hole .i), (3, .hole .i), (4, .ptr 0 []), (5, .ptr 1 []), (8, .ptr 2 []), (15, .row (.st .seat)), (16, .nils), (79, .hole (.list .i)), (80, .hole .i), (81, .hole .i)], [(0, (.arr 64 (.st .entry)), .hole (.arr 64 (.st .entry))), (1, (.st .batch), .hole (.st .batch)), (2, (.arr 64 (.st .entry)), .hole (.arr 64 (.st .entry)))], []⟩, [(.exit 2, ⟨[(2, .hole .i), (3, .hole .i), (4, .ptr 0 []), (5, .ptr 1 []), (8, .ptr 2 []), (15, .row (.st .seat)), (16, .nils)], [(0, (.arr 64 (.st .entry)), .hole (.arr 64 (.st .entry))), (1, (.st .batch), .hole (.st .batch)), (2, (.arr 64 (.st .entry)), .hole (.arr 64 (.st .entry)))], []⟩)], 13⟩), (26, ⟨⟨[(2, .hole .i), (3, .hole .i), (4, .ptr 0 []), (8, .ptr 2 []), (15, .row (.st .seat)), (16, .row (.st .seat)), (20, .hole .i), (21, .hole .i), (22, .hole .i), (99, .hole (.list .i)), (100, .hole .i), (101, .hole .i)], [(0, (.arr 64 (.st .entry)), .hole (.arr 64 (.st .entry))), (2, (.arr 64 (.st .entry)), .hole (.arr 64 (.st .entry)))], []⟩, [(.exit 6, ⟨[(2, .hole .i), (3, .hole .i), (4, .ptr 0 []), (8, .ptr 2 []), (15, .row (.st .seat)), (16, .row (.st .seat)), (20, .hole .i), (21, .hole .i), (22, .hole .i), (99, .hole (.list .i)), (100, .hole .i), (101, .hole .i)], [(0, (.arr 64 (.st .entry)), .hole (.arr 64 (.st .entry))), (2, (.arr 64 (.st .entry)), .hole (.arr 64 (.st .entry)))], []⟩)], 12⟩), (23, ⟨⟨[(2, .hole .i), (3, .hole .i), (4, .ptr 0 []), (8, .ptr 2 []), (15, .row (.st .seat)), (16, .row (.st .seat)), (99, .hole (.list .i)), (100, .hole .i), (101, .hole .i)], [(0, (.arr 64 (.st .entry)), .hole (.arr 64 (.st .entry))), (2, (.arr 64 (.st .entry)), .hole (.arr 64 (.st .entry)))], []⟩, [(.exit 4, ⟨[(4, .ptr 0 []), (8, .ptr 2 []), (15, .row (.st .seat)), (16, .row (.st .seat))], [(0, (.arr 64 (.st .entry)), .hole (.arr 64 (.st .entry))), (2, (.arr 64 (.st .entry)), .hole (.arr 64 (.st .entry)))], []⟩)], 24⟩)]
noncomputable def Ls_ref09_Move : List (Nat × List (Nat × LD)) := []
noncomputable def B_ref09_Move : Bodies := []
theorem run_ref09_Move (x : denL [(.arr 64 (.st .entry)), (.st .batch), .i, .i]) : run [(44, c_ref09_Fits), (21, c_ref09_Find)] L_ref09_Move Ls_ref09_Move B_ref09_Move Try.f47 [(.arr 64 (.st .entry)), (.st .batch), .i, .i] [(.arr 64 (.st .entry)), (.list (.st .seat)), (.list (.st .seat)), .i] x = g_ref09_Move x := by kernel_rfl
theorem ok_ref09_Move : ConOK Try.prog 47 c_ref09_Move := con_ok (ConsOK.cons ok_ref09_Fits (ConsOK.cons ok_ref09_Find (ConsOK.nil))) L_ref09_Move Ls_ref09_Move (B := B_ref09_Move) (BodiesOK.nil) Try.func47 rfl fun x y hf h => (run_ref09_Move x).trans (eq_ref09_Move x y hf h)
noncomputable def L_ref11_Replaced : List (Nat × LD) := [(7, ⟨⟨[(0, .hole (.list (.st .seat))), (3, .hole (.int .u32)), (4, .hole (.int .u32)), (5, .hole .i), (12, .hole (.list (.st .seat))), (13, .hole .i), (14, .hole .i)], [], []⟩, [(.exit 2, ⟨[(0, .hole (.list (.st .seat))), (3, .hole (.int .u32)), (4, .hole (.int .u32)), (5, .hole .i)], [], []⟩)], 11⟩), (4, ⟨⟨[(0, .hole (.list (.st .seat))), (3, .hole (.int .u32)), (4, .hole (.int .u32)), (5, .hole .i)], [], []⟩, [(.exit 0, ⟨[(3, .hole (.int .u32))], [], []⟩)], 22⟩)]
noncomputable def Ls_ref11_Replaced : List (Nat × List (Nat × LD)) := []
noncomputable def B_ref11_Replaced : Bodies := []
theorem run_ref11_Replaced (x : denL [(.list (.st .seat))]) : run [(52, c_ref01_Leaf), (66, c_ref01_Below)] L_ref11_Replaced Ls_ref11_Replaced B_ref11_Replaced Try.f46 [(.list (.st .seat))] [(.int .u32)] x = g_ref11_Replaced x := by kernel_rfl
theorem ok_ref11_Replaced : ConOK Try.prog 46 c_ref11_Replaced := con_ok (ConsOK.cons ok_ref01_Leaf (ConsOK.cons ok_ref01_Below (ConsOK.nil))) L_ref11_Replaced Ls_ref11_Replaced (B := B_ref11_Replaced) (BodiesOK.nil) Try.func46 rfl fun x y hf h => (run_ref11_Replaced x).trans (eq_ref11_Replaced x y hf h)
noncomputable def L_ref11_Next : List (Nat × LD) := [(10, ⟨⟨[(2, .ptr 0 []), (3, .ptr 1 []), (4, .ptr 2 []), (9, .row (.st .seat)), (34, .hole (.list .i)), (35, .hole .i), (36, .hole .i)], [(0, (.st .tree), .hole (.st .tree)), (1, (.st .batch), .hole (.st .batch)), (2, (.st .tree), .hole (.st .tree))], []⟩, [(.exit 0, ⟨[(2, .ptr 0 []), (3, .ptr 1 []), (4, .ptr 2 []), (9, .row (.st .seat))], [(0, (.st .tree), .hole (.st .tree)), (1, (.st .batch), .hole (.st .batch)), (2, (.st .tree), .hole (.st .tree))], []⟩)], 13⟩)]
noncomputable def Ls_ref11_Next : List (Nat × List (Nat × LD)) := []
noncomputable def B_ref11_Next : Bodies := []
theorem run_ref11_Next (x : denL [(.st .tree), (.st .batch)]) : run [(20, c_ref11_Check), (44, c_ref09_Fits), (21, c_ref09_Find), (46, c_ref11_Replaced), (45, c_ref10_Turn), (47, c_ref09_Move)] L_ref11_Next Ls_ref11_Next B_ref11_Next Try.f24 [(.st .tree), (.st .batch)] [(.st .tree), (.list (.st .seat)), (.list (.st .seat)), .i] x = g_ref11_Next x := by kernel_rfl
theorem ok_ref11_Next : ConOK Try.prog 24 c_ref11_Next := con_ok (ConsOK.cons ok_ref11_Check (ConsOK.cons ok_ref09_Fits (ConsOK.cons ok_ref09_Find (ConsOK.cons ok_ref11_Replaced (ConsOK.cons ok_ref10_Turn (ConsOK.cons ok_ref09_Move (ConsOK.nil))))))) L_ref11_Next Ls_ref11_Next (B := B_ref11_Next) (BodiesOK.nil) Try.func24 rfl fun x y hf h => (run_ref11_Next x).trans (eq_ref11_Next x y hf h)
noncomputable def L_ref12_item : List (Nat × LD) := []
noncomputable def Ls_ref12_item : List (Nat × List (Nat × LD)) := []
noncomputable def B_ref12_item : Bodies := []
theorem run_ref12_item (x : denL [(.st .tree), .i, .i]) : run [(67, c_ref11_Of)] L_ref12_item Ls_ref12_item B_ref12_item Try.f51 [(.st .tree), .i, .i] [(.st .item)] x = g_ref12_item x := by kernel_rfl
theorem ok_ref12_item : ConOK Try.prog 51 c_ref12_item := con_ok (ConsOK.cons ok_ref11_Of (ConsOK.nil)) L_ref12_item Ls_ref12_item (B := B_ref12_item) (BodiesOK.nil) Try.func51 rfl fun x y hf h => (run_ref12_item x).trans (eq_ref12_item x y hf h)
noncomputable def L_ref12_Items : List (Nat × LD) := [(7, ⟨⟨[(2, .hole (.list (.st .seat))), (3, .ptr 0 []), (7, .hole (.int .u32)), (8, .row (.st .item)), (9, .hole .i), (10, .hole .i)], [(0, (.st .tree), .hole (.st .tree))], []⟩, [(.exit 2, ⟨[(2, .hole (.list (.st .seat))), (3, .ptr 0 []), (7, .hole (.int .u32)), (8, .row (.st .item)), (9, .hole .i)], [(0, (.st .tree), .hole (.st .tree))], []⟩)], 13⟩), (4, ⟨⟨[(2, .hole (.list (.st .seat))), (3, .ptr 0 []), (7, .hole (.int .u32)), (8, .row (.st .item)), (9, .hole .i)], [(0, (.st .tree), .hole (.st .tree))], []⟩, [(.exit 0, ⟨[(2, .hole (.list (.st .seat))), (3, .ptr 0 []), (7, .hole (.int .u32)), (8, .row (.st .item))], [(0, (.st .tree), .hole (.st .tree))], []⟩)], 25⟩), (17, ⟨⟨[(3, .ptr 0 []), (7, .hole (.int .u32)), (8, .row (.st .item)), (13, .ptr 27 []), (14, .ptr 28 []), (16, .hole .i), (46, .hole (.list (.st .seat))), (47, .hole .i), (48, .hole .i)], [(0, (.st .tree), .hole (.st .tree)), (27, (.st .seat), .hole (.st .seat)), (28, (.arr 3 .i), .hole (.arr 3 .i))], []⟩, [(.exit 6, ⟨[(3, .ptr 0 []), (7, .hole (.int .u32)), (8, .row (.st .item)), (46, .hole (.list (.st .seat))), (47, .hole .i), (48, .hole .i)], [(0, (.st .tree), .hole (.st .tree))], []⟩)], 13⟩), (13, ⟨⟨[(3, .ptr 0 []), (7, .hole (.int .u32)), (8, .row (.st .item)), (46, .hole (.list (.st .seat))), (47, .hole .i), (48, .hole .i)], [(0, (.st .tree), .hole (.st .tree))], []⟩, [(.exit 4, ⟨[(8, .row (.st .item))], [], []⟩)], 27⟩)]
noncomputable def Ls_ref12_Items : List (Nat × List (Nat × LD)) := []
noncomputable def B_ref12_Items : Bodies := []
theorem run_ref12_Items (x : denL [(.st .tree), (.list (.st .seat)), (.list (.st .seat))]) : run [(46, c_ref11_Replaced), (48, c_ref01_In), (49, c_ref01_Child), (50, c_ref11_Below), (51, c_ref12_item), (43, c_ref01_Path), (52, c_ref01_Leaf)] L_ref12_Items Ls_ref12_Items B_ref12_Items Try.f25 [(.st .tree), (.list (.st .seat)), (.list (.st .seat))] [(.list (.st .item))] x = g_ref12_Items x := by kernel_rfl
theorem ok_ref12_Items : ConOK Try.prog 25 c_ref12_Items := con_ok (ConsOK.cons ok_ref11_Replaced (ConsOK.cons ok_ref01_In (ConsOK.cons ok_ref01_Child (ConsOK.cons ok_ref11_Below (ConsOK.cons ok_ref12_item (ConsOK.cons ok_ref01_Path (ConsOK.cons ok_ref01_Leaf (ConsOK.nil)))))))) L_ref12_Items Ls_ref12_Items (B := B_ref12_Items) (BodiesOK.nil) Try.func25 rfl fun x y hf h => (run_ref12_Items x).trans (eq_ref12_Items x y hf h)
noncomputable def L_ref12_Next : List (Nat × LD) := []
noncomputable def Ls_ref12_Next : List (Nat × List (Nat × LD)) := []
noncomputable def B_ref12_Next : Bodies := []
theorem run_ref12_Next (x : denL [(.st .tree), (.st .batch)]) : run [(24, c_ref11_Next), (25, c_ref12_Items)] L_ref12_Next Ls_ref12_Next B_ref12_Next Try.f13 [(.st .tree), (.st .batch)] [(.st .tree), (.st .rekey), .i] x = g_ref12_Next x := by kernel_rfl
theorem ok_ref12_Next : ConOK Try.prog 13 c_ref12_Next := con_ok (ConsOK.cons ok_ref11_Next (ConsOK.cons ok_ref12_Items (ConsOK.nil))) L_ref12_Next Ls_ref12_Next (B := B_ref12_Next) (BodiesOK.nil) Try.func13 rfl fun x y hf h => (run_ref12_Next x).trans (eq_ref12_Next x y hf h)
noncomputable def L_shape_first : List (Nat × LD) := []
noncomputable def Ls_shape_first : List (Nat × List (Nat × LD)) := []
noncomputable def B_shape_first : Bodies := []
theorem run_shape_first (x : denL [.i]) : run [] L_shape_first Ls_shape_first B_shape_first Try.f74 [.i] [.i] x = g_shape_first x := by kernel_rfl
theorem ok_shape_first : ConOK Try.prog 74 c_shape_first := con_ok (ConsOK.nil) L_shape_first Ls_shape_first (B := B_shape_first) (BodiesOK.nil) Try.func74 rfl fun x y hf h => (run_shape_first x).trans (eq_shape_first x y hf h)
noncomputable def L_shape_Level : List (Nat × LD) := [(5, ⟨⟨[(0, .hole .i), (3, .hole .i)], [], []⟩, [(.ret, ⟨[(2, .hole .i)], [], []⟩)], 10⟩)]
noncomputable def Ls_shape_Level : List (Nat × List (Nat × LD)) := []
noncomputable def B_shape_Level : Bodies := []
theorem run_shape_Level (x : denL [.i]) : run [(74, c_shape_first)] L_shape_Level Ls_shape_Level B_shape_Level Try.f69 [.i] [.i] x = g_shape_Level x := by kernel_rfl
theorem ok_shape_Level : ConOK Try.prog 69 c_shape_Level := con_ok (ConsOK.cons ok_shape_first (ConsOK.nil)) L_shape_Level Ls_shape_Level (B := B_shape_Level) (BodiesOK.nil) Try.func69 rfl fun x y hf h => (run_shape_Level x).trans (eq_shape_Level x y hf h)
noncomputable def L_shape_span : List (Nat × LD) := []
noncomputable def Ls_shape_span : List (Nat × List (Nat × LD)) := []
noncomputable def B_shape_span : Bodies := []
theorem run_shape_span (x : denL [.i]) : run [(69, c_shape_Level), (74, c_shape_first)] L_shape_span Ls_shape_span B_shape_span Try.f75 [.i] [.i, .i] x = g_shape_span x := by kernel_rfl
theorem ok_shape_span : ConOK Try.prog 75 c_shape_span := con_ok (ConsOK.cons ok_shape_Level (ConsOK.cons ok_shape_first (ConsOK.nil))) L_shape_span Ls_shape_span (B := B_shape_span) (BodiesOK.nil) Try.func75 rfl fun x y hf h => (run_shape_span x).trans (eq_shape_span x y hf h)
noncomputable def L_shape_Mask : List (Nat × LD) := []
noncomputable def Ls_shape_Mask : List (Nat × List (Nat × LD)) := []
noncomputable def B_shape_Mask : Bodies := []
theorem run_shape_Mask (x : denL [.i]) : run [(69, c_shape_Level), (75, c_shape_span)] L_shape_Mask Ls_shape_Mask B_shape_Mask Try.f70 [.i] [(.int .u64)] x = g_shape_Mask x := by kernel_rfl
theorem ok_shape_Mask : ConOK Try.prog 70 c_shape_Mask := con_ok (ConsOK.cons ok_shape_Level (ConsOK.cons ok_shape_span (ConsOK.nil))) L_shape_Mask Ls_shape_Mask (B := B_shape_Mask) (BodiesOK.nil) Try.func70 rfl fun x y hf h => (run_shape_Mask x).trans (eq_shape_Mask x y hf h)
noncomputable def L_shape_Below : List (Nat × LD) := []
noncomputable def Ls_shape_Below : List (Nat × List (Nat × LD)) := []
noncomputable def B_shape_Below : Bodies := []
theorem run_shape_Below (x : denL [.i, .i]) : run [(69, c_shape_Level), (70, c_shape_Mask)] L_shape_Below Ls_shape_Below B_shape_Below Try.f58 [.i, .i] [.bool] x = g_shape_Below x := by kernel_rfl
theorem ok_shape_Below : ConOK Try.prog 58 c_shape_Below := con_ok (ConsOK.cons ok_shape_Level (ConsOK.cons ok_shape_Mask (ConsOK.nil))) L_shape_Below Ls_shape_Below (B := B_shape_Below) (BodiesOK.nil) Try.func58 rfl fun x y hf h => (run_shape_Below x).trans (eq_shape_Below x y hf h)
noncomputable def L_cmp_Compare : List (Nat × LD) := []
noncomputable def Ls_cmp_Compare : List (Nat × List (Nat × LD)) := []
noncomputable def B_cmp_Compare : Bodies := [bodyLine 38 Try.f38]
theorem run_cmp_Compare (x : denL [.i, .i]) : run [] L_cmp_Compare Ls_cmp_Compare B_cmp_Compare Try.f18 [.i, .i] [.i] x = g_cmp_Compare x := by kernel_rfl
theorem ok_cmp_Compare : ConOK Try.prog 18 c_cmp_Compare := con_ok (ConsOK.nil) L_cmp_Compare Ls_cmp_Compare (B := B_cmp_Compare) (BodiesOK.cons Try.func38 rfl (BodiesOK.nil)) Try.func18 rfl fun x y hf h => (run_cmp_Compare x).trans (eq_cmp_Compare x y hf h)
noncomputable def L_member_between : List (Nat × LD) := []
noncomputable def Ls_member_between : List (Nat × List (Nat × LD)) := []
noncomputable def B_member_between : Bodies := []
theorem run_member_between (x : denL [.i, .i, .i]) : run [] L_member_between Ls_member_between B_member_between Try.f53 [.i, .i, .i] [.bool] x = g_member_between x := by kernel_rfl
theorem ok_member_between : ConOK Try.prog 53 c_member_between := con_ok (ConsOK.nil) L_member_between Ls_member_between (B := B_member_between) (BodiesOK.nil) Try.func53 rfl fun x y hf h => (run_member_between x).trans (eq_member_between x y hf h)
noncomputable def L_member_card : List (Nat × LD) := []
noncomputable def Ls_member_card : List (Nat × List (Nat × LD)) := []
noncomputable def B_member_card : Bodies := []
theorem run_member_card (x : denL [(.st .card)]) : run [(53, c_member_between), (37, c_key_Good)] L_member_card Ls_member_card B_member_card Try.f54 [(.st .card)] [.bool] x = g_member_card x := by kernel_rfl
theorem ok_member_card : ConOK Try.prog 54 c_member_card := con_ok (ConsOK.cons ok_member_between (ConsOK.cons ok_key_Good (ConsOK.nil))) L_member_card Ls_member_card (B := B_member_card) (BodiesOK.nil) Try.func54 rfl fun x y hf h => (run_member_card x).trans (eq_member_card x y hf h)
noncomputable def L_member_Kind : List (Nat × LD) := []
noncomputable def Ls_member_Kind : List (Nat × List (Nat × LD)) := [(68, [(2, ⟨⟨[(0, .asl 0 [.fld 4]), (1, .fn 56 []), (7, .hole .i), (8, .hole .i)], [(0, (.st .member), .hole (.st .member))], []⟩, [(.ret, ⟨[(4, .hole .i)], [(0, (.st .member), .hole (.st .member))], []⟩), (.exit 0, ⟨[], [(0, (.st .member), .hole (.st .member))], []⟩)], 10⟩)])]
noncomputable def B_member_Kind : Bodies := [bodyLine 55 Try.f55, bodyLine 68 Try.f68, bodyLine 56 Try.f56]
theorem run_member_Kind (x : denL [(.st .member)]) : run [(53, c_member_between), (54, c_member_card), (37, c_key_Good)] L_member_Kind Ls_member_Kind B_member_Kind Try.f26 [(.st .member)] [.i] x = g_member_Kind x := by kernel_rfl
theorem ok_member_Kind : ConOK Try.prog 26 c_member_Kind := con_ok (ConsOK.cons ok_member_between (ConsOK.cons ok_member_card (ConsOK.cons ok_key_Good (ConsOK.nil)))) L_member_Kind Ls_member_Kind (B := B_member_Kind) (BodiesOK.cons Try.func55 rfl (BodiesOK.cons Try.func68 rfl (BodiesOK.cons Try.func56 rfl (BodiesOK.nil)))) Try.func26 rfl fun x y hf h => (run_member_Kind x).trans (eq_member_Kind x y hf h)
noncomputable def L_member_Group : List (Nat × LD) := []
noncomputable def Ls_member_Group : List (Nat × List (Nat × LD)) := []
noncomputable def B_member_Group : Bodies := []
theorem run_member_Group (x : denL [(.st .member)]) : run [(26, c_member_Kind)] L_member_Group Ls_member_Group B_member_Group Try.f15 [(.st .member)] [(.st .key), .i] x = g_member_Group x := by kernel_rfl
theorem ok_member_Group : ConOK Try.prog 15 c_member_Group := con_ok (ConsOK.cons ok_member_Kind (ConsOK.nil)) L_member_Group Ls_member_Group (B := B_member_Group) (BodiesOK.nil) Try.func15 rfl fun x y hf h => (run_member_Group x).trans (eq_member_Group x y hf h)
noncomputable def L_ref15_GoodCard : List (Nat × LD) := []
noncomputable def Ls_ref15_GoodCard : List (Nat × List (Nat × LD)) := []
noncomputable def B_ref15_GoodCard : Bodies := []
theorem run_ref15_GoodCard (x : denL [(.st .card)]) : run [(40, c_ref02_Good)] L_ref15_GoodCard Ls_ref15_GoodCard B_ref15_GoodCard Try.f57 [(.st .card)] [.bool] x = g_ref15_GoodCard x := by kernel_rfl
theorem ok_ref15_GoodCard : ConOK Try.prog 57 c_ref15_GoodCard := con_ok (ConsOK.cons ok_ref02_Good (ConsOK.nil)) L_ref15_GoodCard Ls_ref15_GoodCard (B := B_ref15_GoodCard) (BodiesOK.nil) Try.func57 rfl fun x y hf h => (run_ref15_GoodCard x).trans (eq_ref15_GoodCard x y hf h)
noncomputable def L_ref15_Kind : List (Nat × LD) := [(14, ⟨⟨[(1, .ptr 0 []), (3, .hole .i)], [(0, (.st .member), .hole (.st .member))], []⟩, [(.ret, ⟨[(2, .hole .i)], [], []⟩), (.exit 0, ⟨[], [], []⟩)], 10⟩)]
noncomputable def Ls_ref15_Kind : List (Nat × List (Nat × LD)) := []
noncomputable def B_ref15_Kind : Bodies := []
theorem run_ref15_Kind (x : denL [(.st .member)]) : run [(57, c_ref15_GoodCard), (40, c_ref02_Good)] L_ref15_Kind Ls_ref15_Kind B_ref15_Kind Try.f27 [(.st .member)] [.i] x = g_ref15_Kind x := by kernel_rfl
theorem ok_ref15_Kind : ConOK Try.prog 27 c_ref15_Kind := con_ok (ConsOK.cons ok_ref15_GoodCard (ConsOK.cons ok_ref02_Good (ConsOK.nil))) L_ref15_Kind Ls_ref15_Kind (B := B_ref15_Kind) (BodiesOK.nil) Try.func27 rfl fun x y hf h => (run_ref15_Kind x).trans (eq_ref15_Kind x y hf h)
noncomputable def L_ref15_Group : List (Nat × LD) := []
noncomputable def Ls_ref15_Group : List (Nat × List (Nat × LD)) := []
noncomputable def B_ref15_Group : Bodies := []
theorem run_ref15_Group (x : denL [(.st .member)]) : run [(27, c_ref15_Kind)] L_ref15_Group Ls_ref15_Group B_ref15_Group Try.f16 [(.st .member)] [(.st .key), .i] x = g_ref15_Group x := by kernel_rfl
theorem ok_ref15_Group : ConOK Try.prog 16 c_ref15_Group := con_ok (ConsOK.cons ok_ref15_Kind (ConsOK.nil)) L_ref15_Group Ls_ref15_Group (B := B_ref15_Group) (BodiesOK.nil) Try.func16 rfl fun x y hf h => (run_ref15_Group x).trans (eq_ref15_Group x y hf h)
noncomputable def L_wire_between : List (Nat × LD) := []
noncomputable def Ls_wire_between : List (Nat × List (Nat × LD)) := []
noncomputable def B_wire_between : Bodies := []
theorem run_wire_between (x : denL [.i, .i, .i]) : run [] L_wire_between Ls_wire_between B_wire_between Try.f29 [.i, .i, .i] [.bool] x = g_wire_between x := by kernel_rfl
theorem ok_wire_between : ConOK Try.prog 29 c_wire_between := con_ok (ConsOK.nil) L_wire_between Ls_wire_between (B := B_wire_between) (BodiesOK.nil) Try.func29 rfl fun x y hf h => (run_wire_between x).trans (eq_wire_between x y hf h)
noncomputable def L_wire_epoch : List (Nat × LD) := []
noncomputable def Ls_wire_epoch : List (Nat × List (Nat × LD)) := []
noncomputable def B_wire_epoch : Bodies := []
theorem run_wire_epoch (x : denL [.i]) : run [(29, c_wire_between)] L_wire_epoch Ls_wire_epoch B_wire_epoch Try.f30 [.i] [.bool] x = g_wire_epoch x := by kernel_rfl
theorem ok_wire_epoch : ConOK Try.prog 30 c_wire_epoch := con_ok (ConsOK.cons ok_wire_between (ConsOK.nil)) L_wire_epoch Ls_wire_epoch (B := B_wire_epoch) (BodiesOK.nil) Try.func30 rfl fun x y hf h => (run_wire_epoch x).trans (eq_wire_epoch x y hf h)
noncomputable def L_wire_seat : List (Nat × LD) := []
noncomputable def Ls_wire_seat : List (Nat × List (Nat × LD)) := []
noncomputable def B_wire_seat : Bodies := []
theorem run_wire_seat (x : denL [(.st .seat)]) : run [(29, c_wire_between)] L_wire_seat Ls_wire_seat B_wire_seat Try.f32 [(.st .seat)] [.bool] x = g_wire_seat x := by kernel_rfl
theorem ok_wire_seat : ConOK Try.prog 32 c_wire_seat := con_ok (ConsOK.cons ok_wire_between (ConsOK.nil)) L_wire_seat Ls_wire_seat (B := B_wire_seat) (BodiesOK.nil) Try.func32 rfl fun x y hf h => (run_wire_seat x).trans (eq_wire_seat x y hf h)
noncomputable def L_wire_box : List (Nat × LD) := []
noncomputable def Ls_wire_box : List (Nat × List (Nat × LD)) := []
noncomputable def B_wire_box : Bodies := []
theorem run_wire_box (x : denL [(.st .box)]) : run [(37, c_key_Good)] L_wire_box Ls_wire_box B_wire_box Try.f36 [(.st .box)] [.bool] x = g_wire_box x := by kernel_rfl
theorem ok_wire_box : ConOK Try.prog 36 c_wire_box := con_ok (ConsOK.cons ok_key_Good (ConsOK.nil)) L_wire_box Ls_wire_box (B := B_wire_box) (BodiesOK.nil) Try.func36 rfl fun x y hf h => (run_wire_box x).trans (eq_wire_box x y hf h)
noncomputable def L_wire_item : List (Nat × LD) := []
noncomputable def Ls_wire_item : List (Nat × List (Nat × LD)) := []
noncomputable def B_wire_item : Bodies := []
theorem run_wire_item (x : denL [(.st .item)]) : run [(29, c_wire_between), (58, c_shape_Below), (36, c_wire_box)] L_wire_item Ls_wire_item B_wire_item Try.f34 [(.st .item)] [.bool] x = g_wire_item x := by kernel_rfl
theorem ok_wire_item : ConOK Try.prog 34 c_wire_item := con_ok (ConsOK.cons ok_wire_between (ConsOK.cons ok_shape_Below (ConsOK.cons ok_wire_box (ConsOK.nil)))) L_wire_item Ls_wire_item (B := B_wire_item) (BodiesOK.nil) Try.func34 rfl fun x y hf h => (run_wire_item x).trans (eq_wire_item x y hf h)
noncomputable def L_wire_empty : List (Nat × LD) := []
noncomputable def Ls_wire_empty : List (Nat × List (Nat × LD)) := []
noncomputable def B_wire_empty : Bodies := []
theorem run_wire_empty (x : denL [(.st .rekey)]) : run [] L_wire_empty Ls_wire_empty B_wire_empty Try.f28 [(.st .rekey)] [.bool] x = g_wire_empty x := by kernel_rfl
theorem ok_wire_empty : ConOK Try.prog 28 c_wire_empty := con_ok (ConsOK.nil) L_wire_empty Ls_wire_empty (B := B_wire_empty) (BodiesOK.nil) Try.func28 rfl fun x y hf h => (run_wire_empty x).trans (eq_wire_empty x y hf h)
noncomputable def L_wire_Good : List (Nat × LD) := [(5, ⟨⟨[(1, .ptr 0 []), (29, .hole (.arr 4 .bool)), (30, .hole .i)], [(0, (.st .message), .hole (.st .message))], []⟩, [(.ret, ⟨[(2, .hole .bool)], [], []⟩), (.exit 0, ⟨[(1, .ptr 0 [])], [(0, (.st .message), .hole (.st .message))], []⟩)], 10⟩)]
noncomputable def Ls_wire_Good : List (Nat × List (Nat × LD)) := [(31, [(2, ⟨⟨[(0, .hole (.list (.st .seat))), (1, .hole .i), (2, .fn 32 []), (9, .hole (.list (.st .seat))), (10, .hole .i), (11, .hole .i)], [(0, (.st .message), .hole (.st .message)), (12, (.st .rekey), .hole (.st .rekey))], []⟩, [(.ret, ⟨[(6, .hole .bool)], [(0, (.st .message), .hole (.st .message)), (12, (.st .rekey), .hole (.st .rekey))], []⟩), (.exit 0, ⟨[(0, .hole (.list (.st .seat))), (1, .hole .i)], [(0, (.st .message), .hole (.st .message)), (12, (.st .rekey), .hole (.st .rekey))], []⟩)], 11⟩)]), (33, [(2, ⟨⟨[(0, .hole (.list (.st .item))), (1, .hole .i), (2, .fn 34 []), (9, .hole (.list (.st .item))), (10, .hole .i), (11, .hole .i)], [(0, (.st .message), .hole (.st .message)), (12, (.st .rekey), .hole (.st .rekey))], []⟩, [(.ret, ⟨[(6, .hole .bool)], [(0, (.st .message), .hole (.st .message)), (12, (.st .rekey), .hole (.st .rekey))], []⟩), (.exit 0, ⟨[(0, .hole (.list (.st .item))), (1, .hole .i)], [(0, (.st .message), .hole (.st .message)), (12, (.st .rekey), .hole (.st .rekey))], []⟩)], 11⟩)]), (35, [(2, ⟨⟨[(0, .asl 12 [.fld 3]), (1, .hole .i), (2, .fn 36 []), (9, .asl 12 [.fld 3]), (10, .hole .i), (11, .hole .i)], [(0, (.st .message), .hole (.st .message)), (12, (.st .reply), .hole (.st .reply))], []⟩, [(.ret, ⟨[(6, .hole .bool)], [(0, (.st .message), .hole (.st .message)), (12, (.st .reply), .hole (.st .reply))], []⟩), (.exit 0, ⟨[(0, .asl 12 [.fld 3]), (1, .hole .i)], [(0, (.st .message), .hole (.st .message)), (12, (.st .reply), .hole (.st .reply))], []⟩)], 11⟩)])]
noncomputable def B_wire_Good : Bodies := [bodyLine 31 Try.f31, bodyLine 33 Try.f33, bodyLine 35 Try.f35]
theorem run_wire_Good (x : denL [(.st .message)]) : run [(28, c_wire_empty), (29, c_wire_between), (30, c_wire_epoch), (32, c_wire_seat), (34, c_wire_item), (36, c_wire_box), (37, c_key_Good)] L_wire_Good Ls_wire_Good B_wire_Good Try.f17 [(.st .message)] [.bool] x = g_wire_Good x := by kernel_rfl
theorem ok_wire_Good : ConOK Try.prog 17 c_wire_Good := con_ok (ConsOK.cons ok_wire_empty (ConsOK.cons ok_wire_between (ConsOK.cons ok_wire_epoch (ConsOK.cons ok_wire_seat (ConsOK.cons ok_wire_item (ConsOK.cons ok_wire_box (ConsOK.cons ok_key_Good (ConsOK.nil)))))))) L_wire_Good Ls_wire_Good (B := B_wire_Good) (BodiesOK.cons Try.func31 rfl (BodiesOK.cons Try.func33 rfl (BodiesOK.cons Try.func35 rfl (BodiesOK.nil)))) Try.func17 rfl fun x y hf h => (run_wire_Good x).trans (eq_wire_Good x y hf h)
noncomputable def L_ref14_epoch : List (Nat × LD) := []
noncomputable def Ls_ref14_epoch : List (Nat × List (Nat × LD)) := []
noncomputable def B_ref14_epoch : Bodies := []
theorem run_ref14_epoch (x : denL [.i]) : run [] L_ref14_epoch Ls_ref14_epoch B_ref14_epoch Try.f39 [.i] [.bool] x = g_ref14_epoch x := by kernel_rfl
theorem ok_ref14_epoch : ConOK Try.prog 39 c_ref14_epoch := con_ok (ConsOK.nil) L_ref14_epoch Ls_ref14_epoch (B := B_ref14_epoch) (BodiesOK.nil) Try.func39 rfl fun x y hf h => (run_ref14_epoch x).trans (eq_ref14_epoch x y hf h)
noncomputable def L_ref14_GoodSealed : List (Nat × LD) := []
noncomputable def Ls_ref14_GoodSealed : List (Nat × List (Nat × LD)) := []
noncomputable def B_ref14_GoodSealed : Bodies := []
theorem run_ref14_GoodSealed (x : denL [(.st .sealed)]) : run [(39, c_ref14_epoch), (40, c_ref02_Good)] L_ref14_GoodSealed Ls_ref14_GoodSealed B_ref14_GoodSealed Try.f19 [(.st .sealed)] [.bool] x = g_ref14_GoodSealed x := by kernel_rfl
theorem ok_ref14_GoodSealed : ConOK Try.prog 19 c_ref14_GoodSealed := con_ok (ConsOK.cons ok_ref14_epoch (ConsOK.cons ok_ref02_Good (ConsOK.nil))) L_ref14_GoodSealed Ls_ref14_GoodSealed (B := B_ref14_GoodSealed) (BodiesOK.nil) Try.func19 rfl fun x y hf h => (run_ref14_GoodSealed x).trans (eq_ref14_GoodSealed x y hf h)
noncomputable def L_data_Seal : List (Nat × LD) := []
noncomputable def Ls_data_Seal : List (Nat × List (Nat × LD)) := []
noncomputable def B_data_Seal : Bodies := []
theorem run_data_Seal (x : denL [(.st .member), .str]) : run [(15, c_member_Group)] L_data_Seal Ls_data_Seal B_data_Seal Try.f8 [(.st .member), .str] [(.st .sealed), .i] x = g_data_Seal x := by kernel_rfl
theorem ok_data_Seal : ConOK Try.prog 8 c_data_Seal := con_ok (ConsOK.cons ok_member_Group (ConsOK.nil)) L_data_Seal Ls_data_Seal (B := B_data_Seal) (BodiesOK.nil) Try.func8 rfl fun x y hf h => (run_data_Seal x).trans (eq_data_Seal x y hf h)
noncomputable def L_data_Open : List (Nat × LD) := []
noncomputable def Ls_data_Open : List (Nat × List (Nat × LD)) := []
noncomputable def B_data_Open : Bodies := []
theorem run_data_Open (x : denL [(.st .member), (.st .sealed)]) : run [(15, c_member_Group), (17, c_wire_Good), (18, c_cmp_Compare)] L_data_Open Ls_data_Open B_data_Open Try.f10 [(.st .member), (.st .sealed)] [.str, .i] x = g_data_Open x := by kernel_rfl
theorem ok_data_Open : ConOK Try.prog 10 c_data_Open := con_ok (ConsOK.cons ok_member_Group (ConsOK.cons ok_wire_Good (ConsOK.cons ok_cmp_Compare (ConsOK.nil)))) L_data_Open Ls_data_Open (B := B_data_Open) (BodiesOK.nil) Try.func10 rfl fun x y hf h => (run_data_Open x).trans (eq_data_Open x y hf h)
noncomputable def L_ref17_Seal : List (Nat × LD) := []
noncomputable def Ls_ref17_Seal : List (Nat × List (Nat × LD)) := []
noncomputable def B_ref17_Seal : Bodies := []
theorem run_ref17_Seal (x : denL [(.st .member), .str]) : run [(16, c_ref15_Group)] L_ref17_Seal Ls_ref17_Seal B_ref17_Seal Try.f9 [(.st .member), .str] [(.st .sealed), .i] x = g_ref17_Seal x := by kernel_rfl
theorem ok_ref17_Seal : ConOK Try.prog 9 c_ref17_Seal := con_ok (ConsOK.cons ok_ref15_Group (ConsOK.nil)) L_ref17_Seal Ls_ref17_Seal (B := B_ref17_Seal) (BodiesOK.nil) Try.func9 rfl fun x y hf h => (run_ref17_Seal x).trans (eq_ref17_Seal x y hf h)
noncomputable def L_ref17_Open : List (Nat × LD) := []
noncomputable def Ls_ref17_Open : List (Nat × List (Nat × LD)) := []
noncomputable def B_ref17_Open : Bodies := []
theorem run_ref17_Open (x : denL [(.st .member), (.st .sealed)]) : run [(16, c_ref15_Group), (19, c_ref14_GoodSealed)] L_ref17_Open Ls_ref17_Open B_ref17_Open Try.f11 [(.st .member), (.st .sealed)] [.str, .i] x = g_ref17_Open x := by kernel_rfl
theorem ok_ref17_Open : ConOK Try.prog 11 c_ref17_Open := con_ok (ConsOK.cons ok_ref15_Group (ConsOK.cons ok_ref14_GoodSealed (ConsOK.nil))) L_ref17_Open Ls_ref17_Open (B := B_ref17_Open) (BodiesOK.nil) Try.func11 rfl fun x y hf h => (run_ref17_Open x).trans (eq_ref17_Open x y hf h)
noncomputable def L_law17_lives : List (Nat × LD) := []
noncomputable def Ls_law17_lives : List (Nat × List (Nat × LD)) := []
noncomputable def B_law17_lives : Bodies := []
theorem run_law17_lives (x : denL []) : run [(14, c_ref11_Start), (13, c_ref12_Next), (12, c_ref11_Stand), (8, c_data_Seal), (10, c_data_Open)] L_law17_lives Ls_law17_lives B_law17_lives Try.f7 [] [.bool] x = g_law17_lives x := by kernel_rfl
theorem ok_law17_lives : ConOK Try.prog 7 c_law17_lives := con_ok (ConsOK.cons ok_ref11_Start (ConsOK.cons ok_ref12_Next (ConsOK.cons ok_ref11_Stand (ConsOK.cons ok_data_Seal (ConsOK.cons ok_data_Open (ConsOK.nil)))))) L_law17_lives Ls_law17_lives (B := B_law17_lives) (BodiesOK.nil) Try.func7 rfl fun x y hf h => (run_law17_lives x).trans (eq_law17_lives x y hf h)
noncomputable def L_law17_DataSeals : List (Nat × LD) := []
noncomputable def Ls_law17_DataSeals : List (Nat × List (Nat × LD)) := []
noncomputable def B_law17_DataSeals : Bodies := []
theorem run_law17_DataSeals (x : denL [(.st .member), .str]) : run [(7, c_law17_lives), (8, c_data_Seal), (9, c_ref17_Seal)] L_law17_DataSeals Ls_law17_DataSeals B_law17_DataSeals Try.f3 [(.st .member), .str] [.bool] x = g_law17_DataSeals x := by kernel_rfl
theorem ok_law17_DataSeals : ConOK Try.prog 3 c_law17_DataSeals := con_ok (ConsOK.cons ok_law17_lives (ConsOK.cons ok_data_Seal (ConsOK.cons ok_ref17_Seal (ConsOK.nil)))) L_law17_DataSeals Ls_law17_DataSeals (B := B_law17_DataSeals) (BodiesOK.nil) Try.func3 rfl fun x y hf h => (run_law17_DataSeals x).trans (eq_law17_DataSeals x y hf h)
noncomputable def L_law17_DataOpens : List (Nat × LD) := []
noncomputable def Ls_law17_DataOpens : List (Nat × List (Nat × LD)) := []
noncomputable def B_law17_DataOpens : Bodies := []
theorem run_law17_DataOpens (x : denL [(.st .member), (.st .sealed)]) : run [(7, c_law17_lives), (10, c_data_Open), (11, c_ref17_Open)] L_law17_DataOpens Ls_law17_DataOpens B_law17_DataOpens Try.f4 [(.st .member), (.st .sealed)] [.bool] x = g_law17_DataOpens x := by kernel_rfl
theorem ok_law17_DataOpens : ConOK Try.prog 4 c_law17_DataOpens := con_ok (ConsOK.cons ok_law17_lives (ConsOK.cons ok_data_Open (ConsOK.cons ok_ref17_Open (ConsOK.nil)))) L_law17_DataOpens Ls_law17_DataOpens (B := B_law17_DataOpens) (BodiesOK.nil) Try.func4 rfl fun x y hf h => (run_law17_DataOpens x).trans (eq_law17_DataOpens x y hf h)
noncomputable def L_law17_DataInStep : List (Nat × LD) := [(12, ⟨⟨[(2, .hole .str), (3, .ptr 0 []), (9, .ptr 2 []), (10, .hole .i)], [(0, (.st .tree), .hole (.st .tree)), (2, (.st .sealed), .hole (.st .sealed))], []⟩, [(.ret, ⟨[(6, .hole .bool)], [], []⟩), (.exit 0, ⟨[], [], []⟩)], 11⟩)]
noncomputable def Ls_law17_DataInStep : List (Nat × List (Nat × LD)) := []
noncomputable def B_law17_DataInStep : Bodies := []
theorem run_law17_DataInStep (x : denL [(.st .tree), .i, .str]) : run [(7, c_law17_lives), (12, c_ref11_Stand), (8, c_data_Seal), (10, c_data_Open)] L_law17_DataInStep Ls_law17_DataInStep B_law17_DataInStep Try.f5 [(.st .tree), .i, .str] [.bool] x = g_law17_DataInStep x := by kernel_rfl
theorem ok_law17_DataInStep : ConOK Try.prog 5 c_law17_DataInStep := con_ok (ConsOK.cons ok_law17_lives (ConsOK.cons ok_ref11_Stand (ConsOK.cons ok_data_Seal (ConsOK.cons ok_data_Open (ConsOK.nil))))) L_law17_DataInStep Ls_law17_DataInStep (B := B_law17_DataInStep) (BodiesOK.nil) Try.func5 rfl fun x y hf h => (run_law17_DataInStep x).trans (eq_law17_DataInStep x y hf h)
end Go.Proofs.Ytlbcachpffehfaa
