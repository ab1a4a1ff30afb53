/-
  The program computes so: printed by a program of my own (wip/tool).
  For the claims about coterie.
-/
import Derived.Test.YtghmcodjbkmlnaaS15A
import Derived.Test.YtghmcodjbkmlnaaN15M
import Derived.Test.YtghmcodjbkmlnaaN11P
import Derived.Test.YtghmcodjbkmlnaaN10L
namespace Go.Proofs.Ytghmcodjbkmlnaa
open Go Go.Co Go.Co.N Go.Proofs
noncomputable def L_key_Good : List (Nat × LD) := []
noncomputable def Ls_key_Good : List (Nat × List (Nat × LD)) := []
noncomputable def B_key_Good : Bodies := []
theorem run_key_Good (x : denL [(.st .key)]) : run [] L_key_Good Ls_key_Good B_key_Good Try.f35 [(.st .key)] [.bool] x = g_key_Good x := by kernel_rfl
theorem ok_key_Good : ConOK Try.prog 35 c_key_Good := con_ok (ConsOK.nil) L_key_Good Ls_key_Good (B := B_key_Good) (BodiesOK.nil) Try.func35 rfl fun x y hf h => (run_key_Good x).trans (eq_key_Good x y hf h)
noncomputable def L_ref02_Good : List (Nat × LD) := []
noncomputable def Ls_ref02_Good : List (Nat × List (Nat × LD)) := []
noncomputable def B_ref02_Good : Bodies := []
theorem run_ref02_Good (x : denL [(.st .key)]) : run [] L_ref02_Good Ls_ref02_Good B_ref02_Good Try.f30 [(.st .key)] [.bool] x = g_ref02_Good x := by kernel_rfl
theorem ok_ref02_Good : ConOK Try.prog 30 c_ref02_Good := con_ok (ConsOK.nil) L_ref02_Good Ls_ref02_Good (B := B_ref02_Good) (BodiesOK.nil) Try.func30 rfl fun x y hf h => (run_ref02_Good x).trans (eq_ref02_Good x y hf h)
noncomputable def L_ref02_Ahead : List (Nat × LD) := [(6, ⟨⟨[(1, .hole .i), (2, .ptr 0 []), (4, .ptr 1 []), (6, .hole .i)], [(0, (.st .key), .hole (.st .key)), (1, (.st .key), .hole (.st .key))], []⟩, [(.exit 0, ⟨[(2, .ptr 0 []), (4, .ptr 1 [])], [(0, (.st .key), .hole (.st .key)), (1, (.st .key), .hole (.st .key))], []⟩)], 10⟩)]
noncomputable def Ls_ref02_Ahead : List (Nat × List (Nat × LD)) := []
noncomputable def B_ref02_Ahead : Bodies := []
theorem run_ref02_Ahead (x : denL [(.st .key), .i]) : run [(30, c_ref02_Good)] L_ref02_Ahead Ls_ref02_Ahead B_ref02_Ahead Try.f69 [(.st .key), .i] [(.st .key), .i] x = g_ref02_Ahead x := by kernel_rfl
theorem ok_ref02_Ahead : ConOK Try.prog 69 c_ref02_Ahead := con_ok (ConsOK.cons ok_ref02_Good (ConsOK.nil)) L_ref02_Ahead Ls_ref02_Ahead (B := B_ref02_Ahead) (BodiesOK.nil) Try.func69 rfl fun x y hf h => (run_ref02_Ahead x).trans (eq_ref02_Ahead x y hf h)
noncomputable def L_ref02_Gives : List (Nat × LD) := []
noncomputable def Ls_ref02_Gives : List (Nat × List (Nat × LD)) := []
noncomputable def B_ref02_Gives : Bodies := []
theorem run_ref02_Gives (x : denL [(.st .key), (.st .key)]) : run [(30, c_ref02_Good)] L_ref02_Gives Ls_ref02_Gives B_ref02_Gives Try.f13 [(.st .key), (.st .key)] [.bool] x = g_ref02_Gives x := by kernel_rfl
theorem ok_ref02_Gives : ConOK Try.prog 13 c_ref02_Gives := con_ok (ConsOK.cons ok_ref02_Good (ConsOK.nil)) L_ref02_Gives Ls_ref02_Gives (B := B_ref02_Gives) (BodiesOK.nil) Try.func13 rfl fun x y hf h => (run_ref02_Gives x).trans (eq_ref02_Gives x y hf h)
noncomputable def L_ref10_Check : List (Nat × LD) := [(7, ⟨⟨[(1, .ptr 0 []), (3, .hole .i), (4, .hole .i)], [(0, (.arr 21 (.st .key)), .hole (.arr 21 (.st .key)))], []⟩, [(.ret, ⟨[(2, .hole .i)], [], []⟩), (.exit 2, ⟨[(1, .ptr 0 []), (3, .hole .i)], [(0, (.arr 21 (.st .key)), .hole (.arr 21 (.st .key)))], []⟩)], 10⟩), (2, ⟨⟨[(1, .ptr 0 []), (3, .hole .i)], [(0, (.arr 21 (.st .key)), .hole (.arr 21 (.st .key)))], []⟩, [(.ret, ⟨[(2, .hole .i)], [], []⟩), (.exit 0, ⟨[], [], []⟩)], 20⟩)]
noncomputable def Ls_ref10_Check : List (Nat × List (Nat × LD)) := []
noncomputable def B_ref10_Check : Bodies := []
theorem run_ref10_Check (x : denL [(.arr 21 (.st .key))]) : run [(30, c_ref02_Good)] L_ref10_Check Ls_ref10_Check B_ref10_Check Try.f48 [(.arr 21 (.st .key))] [.i] x = g_ref10_Check x := by kernel_rfl
theorem ok_ref10_Check : ConOK Try.prog 48 c_ref10_Check := con_ok (ConsOK.cons ok_ref02_Good (ConsOK.nil)) L_ref10_Check Ls_ref10_Check (B := B_ref10_Check) (BodiesOK.nil) Try.func48 rfl fun x y hf h => (run_ref10_Check x).trans (eq_ref10_Check x y hf h)
noncomputable def L_ref01_In : List (Nat × LD) := [(4, ⟨⟨[(0, .hole (.int .u32)), (1, .hole .i), (5, .hole .i)], [], []⟩, [(.exit 0, ⟨[(0, .hole (.int .u32))], [], []⟩)], 10⟩)]
noncomputable def Ls_ref01_In : List (Nat × List (Nat × LD)) := []
noncomputable def B_ref01_In : Bodies := []
theorem run_ref01_In (x : denL [(.int .u32), .i]) : run [] L_ref01_In Ls_ref01_In B_ref01_In Try.f42 [(.int .u32), .i] [.bool] x = g_ref01_In x := by kernel_rfl
theorem ok_ref01_In : ConOK Try.prog 42 c_ref01_In := con_ok (ConsOK.nil) L_ref01_In Ls_ref01_In (B := B_ref01_In) (BodiesOK.nil) Try.func42 rfl fun x y hf h => (run_ref01_In x).trans (eq_ref01_In x y hf h)
noncomputable def L_ref10_count : List (Nat × LD) := [(3, ⟨⟨[(0, .hole (.int .u32)), (3, .hole .i), (4, .hole .i)], [], []⟩, [(.exit 0, ⟨[(3, .hole .i)], [], []⟩)], 10⟩)]
noncomputable def Ls_ref10_count : List (Nat × List (Nat × LD)) := []
noncomputable def B_ref10_count : Bodies := []
theorem run_ref10_count (x : denL [(.int .u32)]) : run [(42, c_ref01_In)] L_ref10_count Ls_ref10_count B_ref10_count Try.f68 [(.int .u32)] [.i] x = g_ref10_count x := by kernel_rfl
theorem ok_ref10_count : ConOK Try.prog 68 c_ref10_count := con_ok (ConsOK.cons ok_ref01_In (ConsOK.nil)) L_ref10_count Ls_ref10_count (B := B_ref10_count) (BodiesOK.nil) Try.func68 rfl fun x y hf h => (run_ref10_count x).trans (eq_ref10_count x y hf h)
noncomputable def L_ref10_Turn : List (Nat × LD) := [(4, ⟨⟨[(1, .hole (.int .u32)), (2, .hole .i), (3, .ptr 0 []), (6, .ptr 1 []), (9, .hole .i)], [(0, (.arr 21 (.st .key)), .hole (.arr 21 (.st .key))), (1, (.arr 21 (.st .key)), .hole (.arr 21 (.st .key)))], []⟩, [(.ret, ⟨[(6, .ptr 1 []), (7, .hole .i), (8, .hole .i)], [(1, (.arr 21 (.st .key)), .hole (.arr 21 (.st .key)))], []⟩), (.exit 0, ⟨[(1, .hole (.int .u32)), (2, .hole .i), (3, .ptr 0 []), (6, .ptr 1 [])], [(0, (.arr 21 (.st .key)), .hole (.arr 21 (.st .key))), (1, (.arr 21 (.st .key)), .hole (.arr 21 (.st .key)))], []⟩)], 10⟩), (12, ⟨⟨[(1, .hole (.int .u32)), (2, .hole .i), (3, .ptr 0 []), (6, .ptr 1 []), (10, .hole .i), (11, .hole .i)], [(0, (.arr 21 (.st .key)), .hole (.arr 21 (.st .key))), (1, (.arr 21 (.st .key)), .hole (.arr 21 (.st .key)))], []⟩, [(.ret, ⟨[(6, .ptr 1 []), (7, .hole .i), (8, .hole .i)], [(1, (.arr 21 (.st .key)), .hole (.arr 21 (.st .key)))], []⟩), (.exit 2, ⟨[(1, .hole (.int .u32)), (2, .hole .i), (3, .ptr 0 []), (6, .ptr 1 [])], [(0, (.arr 21 (.st .key)), .hole (.arr 21 (.st .key))), (1, (.arr 21 (.st .key)), .hole (.arr 21 (.st .key)))], []⟩)], 10⟩), (17, ⟨⟨[(1, .hole (.int .u32)), (2, .hole .i), (3, .ptr 0 []), (6, .ptr 1 []), (12, .hole .i)], [(0, (.arr 21 (.st .key)), .hole (.arr 21 (.st .key))), (1, (.arr 21 (.st .key)), .hole (.arr 21 (.st .key)))], []⟩, [(.ret, ⟨[(6, .ptr 1 []), (7, .hole .i), (8, .hole .i)], [(1, (.arr 21 (.st .key)), .hole (.arr 21 (.st .key)))], []⟩), (.exit 4, ⟨[(2, .hole .i), (3, .ptr 0 []), (6, .ptr 1 [])], [(0, (.arr 21 (.st .key)), .hole (.arr 21 (.st .key))), (1, (.arr 21 (.st .key)), .hole (.arr 21 (.st .key)))], []⟩)], 11⟩)]
noncomputable def Ls_ref10_Turn : List (Nat × List (Nat × LD)) := []
noncomputable def B_ref10_Turn : Bodies := []
theorem run_ref10_Turn (x : denL [(.arr 21 (.st .key)), (.int .u32), .i]) : run [(48, c_ref10_Check), (42, c_ref01_In), (68, c_ref10_count), (69, c_ref02_Ahead)] L_ref10_Turn Ls_ref10_Turn B_ref10_Turn Try.f39 [(.arr 21 (.st .key)), (.int .u32), .i] [(.arr 21 (.st .key)), .i, .i] x = g_ref10_Turn x := by kernel_rfl
theorem ok_ref10_Turn : ConOK Try.prog 39 c_ref10_Turn := con_ok (ConsOK.cons ok_ref10_Check (ConsOK.cons ok_ref01_In (ConsOK.cons ok_ref10_count (ConsOK.cons ok_ref02_Ahead (ConsOK.nil))))) L_ref10_Turn Ls_ref10_Turn (B := B_ref10_Turn) (BodiesOK.nil) Try.func39 rfl fun x y hf h => (run_ref10_Turn x).trans (eq_ref10_Turn x y hf h)
noncomputable def L_ref10_LeafAt : List (Nat × LD) := []
noncomputable def Ls_ref10_LeafAt : List (Nat × List (Nat × LD)) := []
noncomputable def B_ref10_LeafAt : Bodies := []
theorem run_ref10_LeafAt (x : denL [(.st .entry), .i]) : run [] L_ref10_LeafAt Ls_ref10_LeafAt B_ref10_LeafAt Try.f26 [(.st .entry), .i] [(.st .key), .i] x = g_ref10_LeafAt x := by kernel_rfl
theorem ok_ref10_LeafAt : ConOK Try.prog 26 c_ref10_LeafAt := con_ok (ConsOK.nil) L_ref10_LeafAt Ls_ref10_LeafAt (B := B_ref10_LeafAt) (BodiesOK.nil) Try.func26 rfl fun x y hf h => (run_ref10_LeafAt x).trans (eq_ref10_LeafAt x y hf h)
noncomputable def L_ref01_Node : List (Nat × LD) := []
noncomputable def Ls_ref01_Node : List (Nat × List (Nat × LD)) := []
noncomputable def B_ref01_Node : Bodies := []
theorem run_ref01_Node (x : denL [.i]) : run [] L_ref01_Node Ls_ref01_Node B_ref01_Node Try.f84 [.i] [.bool] x = g_ref01_Node x := by kernel_rfl
theorem ok_ref01_Node : ConOK Try.prog 84 c_ref01_Node := con_ok (ConsOK.nil) L_ref01_Node Ls_ref01_Node (B := B_ref01_Node) (BodiesOK.nil) Try.func84 rfl fun x y hf h => (run_ref01_Node x).trans (eq_ref01_Node x y hf h)
noncomputable def L_ref01_Child : List (Nat × LD) := []
noncomputable def Ls_ref01_Child : List (Nat × List (Nat × LD)) := []
noncomputable def B_ref01_Child : Bodies := []
theorem run_ref01_Child (x : denL [.i, .i]) : run [] L_ref01_Child Ls_ref01_Child B_ref01_Child Try.f43 [.i, .i] [.i] x = g_ref01_Child x := by kernel_rfl
theorem ok_ref01_Child : ConOK Try.prog 43 c_ref01_Child := con_ok (ConsOK.nil) L_ref01_Child Ls_ref01_Child (B := B_ref01_Child) (BodiesOK.nil) Try.func43 rfl fun x y hf h => (run_ref01_Child x).trans (eq_ref01_Child x y hf h)
noncomputable def L_ref01_Parent : List (Nat × LD) := [(7, ⟨⟨[(0, .hole .i), (3, .hole .i), (4, .hole .i)], [], []⟩, [(.ret, ⟨[(2, .hole .i)], [], []⟩), (.exit 2, ⟨[(0, .hole .i), (3, .hole .i)], [], []⟩)], 10⟩), (4, ⟨⟨[(0, .hole .i), (3, .hole .i)], [], []⟩, [(.ret, ⟨[(2, .hole .i)], [], []⟩), (.exit 0, ⟨[], [], []⟩)], 20⟩)]
noncomputable def Ls_ref01_Parent : List (Nat × List (Nat × LD)) := []
noncomputable def B_ref01_Parent : Bodies := []
theorem run_ref01_Parent (x : denL [.i]) : run [(43, c_ref01_Child)] L_ref01_Parent Ls_ref01_Parent B_ref01_Parent Try.f72 [.i] [.i] x = g_ref01_Parent x := by kernel_rfl
theorem ok_ref01_Parent : ConOK Try.prog 72 c_ref01_Parent := con_ok (ConsOK.cons ok_ref01_Child (ConsOK.nil)) L_ref01_Parent Ls_ref01_Parent (B := B_ref01_Parent) (BodiesOK.nil) Try.func72 rfl fun x y hf h => (run_ref01_Parent x).trans (eq_ref01_Parent x y hf h)
noncomputable def L_ref01_Leaf : List (Nat × LD) := []
noncomputable def Ls_ref01_Leaf : List (Nat × List (Nat × LD)) := []
noncomputable def B_ref01_Leaf : Bodies := []
theorem run_ref01_Leaf (x : denL [.i]) : run [] L_ref01_Leaf Ls_ref01_Leaf B_ref01_Leaf Try.f47 [.i] [.i] x = g_ref01_Leaf x := by kernel_rfl
theorem ok_ref01_Leaf : ConOK Try.prog 47 c_ref01_Leaf := con_ok (ConsOK.nil) L_ref01_Leaf Ls_ref01_Leaf (B := B_ref01_Leaf) (BodiesOK.nil) Try.func47 rfl fun x y hf h => (run_ref01_Leaf x).trans (eq_ref01_Leaf x y hf h)
noncomputable def L_ref01_Path : List (Nat × LD) := [(6, ⟨⟨[(2, .ptr 0 []), (4, .ptr 1 []), (5, .hole .i), (6, .hole .i)], [(0, (.arr 3 .i), .hole (.arr 3 .i)), (1, (.arr 3 .i), .hole (.arr 3 .i))], []⟩, [(.exit 0, ⟨[(2, .ptr 0 []), (4, .ptr 1 [])], [(0, (.arr 3 .i), .hole (.arr 3 .i)), (1, (.arr 3 .i), .hole (.arr 3 .i))], []⟩)], 10⟩)]
noncomputable def Ls_ref01_Path : List (Nat × List (Nat × LD)) := []
noncomputable def B_ref01_Path : Bodies := []
theorem run_ref01_Path (x : denL [.i]) : run [(47, c_ref01_Leaf), (72, c_ref01_Parent)] L_ref01_Path Ls_ref01_Path B_ref01_Path Try.f46 [.i] [(.arr 3 .i), .bool] x = g_ref01_Path x := by kernel_rfl
theorem ok_ref01_Path : ConOK Try.prog 46 c_ref01_Path := con_ok (ConsOK.cons ok_ref01_Leaf (ConsOK.cons ok_ref01_Parent (ConsOK.nil))) L_ref01_Path Ls_ref01_Path (B := B_ref01_Path) (BodiesOK.nil) Try.func46 rfl fun x y hf h => (run_ref01_Path x).trans (eq_ref01_Path x y hf h)
noncomputable def L_ref01_Below : List (Nat × LD) := [(3, ⟨⟨[(0, .hole .i), (1, .hole .i)], [], []⟩, [(.exit 0, ⟨[(0, .hole .i), (1, .hole .i)], [], []⟩)], 10⟩)]
noncomputable def Ls_ref01_Below : List (Nat × List (Nat × LD)) := []
noncomputable def B_ref01_Below : Bodies := []
theorem run_ref01_Below (x : denL [.i, .i]) : run [(84, c_ref01_Node), (72, c_ref01_Parent)] L_ref01_Below Ls_ref01_Below B_ref01_Below Try.f70 [.i, .i] [.bool] x = g_ref01_Below x := by kernel_rfl
theorem ok_ref01_Below : ConOK Try.prog 70 c_ref01_Below := con_ok (ConsOK.cons ok_ref01_Node (ConsOK.cons ok_ref01_Parent (ConsOK.nil))) L_ref01_Below Ls_ref01_Below (B := B_ref01_Below) (BodiesOK.nil) Try.func70 rfl fun x y hf h => (run_ref01_Below x).trans (eq_ref01_Below x y hf h)
noncomputable def L_ref09_Right : List (Nat × LD) := []
noncomputable def Ls_ref09_Right : List (Nat × List (Nat × LD)) := []
noncomputable def B_ref09_Right : Bodies := []
theorem run_ref09_Right (x : denL [(.st .entry)]) : run [] L_ref09_Right Ls_ref09_Right B_ref09_Right Try.f73 [(.st .entry)] [.bool] x = g_ref09_Right x := by kernel_rfl
theorem ok_ref09_Right : ConOK Try.prog 73 c_ref09_Right := con_ok (ConsOK.nil) L_ref09_Right Ls_ref09_Right (B := B_ref09_Right) (BodiesOK.nil) Try.func73 rfl fun x y hf h => (run_ref09_Right x).trans (eq_ref09_Right x y hf h)
noncomputable def L_ref09_Check : List (Nat × LD) := [(8, ⟨⟨[(1, .ptr 0 []), (3, .hole .i), (4, .hole .i)], [(0, (.arr 64 (.st .entry)), .hole (.arr 64 (.st .entry)))], []⟩, [(.ret, ⟨[(2, .hole .i)], [], []⟩), (.exit 2, ⟨[(1, .ptr 0 []), (3, .hole .i)], [(0, (.arr 64 (.st .entry)), .hole (.arr 64 (.st .entry)))], []⟩)], 10⟩), (2, ⟨⟨[(1, .ptr 0 []), (3, .hole .i)], [(0, (.arr 64 (.st .entry)), .hole (.arr 64 (.st .entry)))], []⟩, [(.ret, ⟨[(2, .hole .i)], [], []⟩), (.exit 0, ⟨[], [], []⟩)], 20⟩)]
noncomputable def Ls_ref09_Check : List (Nat × List (Nat × LD)) := []
noncomputable def B_ref09_Check : Bodies := []
theorem run_ref09_Check (x : denL [(.arr 64 (.st .entry))]) : run [(73, c_ref09_Right)] L_ref09_Check Ls_ref09_Check B_ref09_Check Try.f49 [(.arr 64 (.st .entry))] [.i] x = g_ref09_Check x := by kernel_rfl
theorem ok_ref09_Check : ConOK Try.prog 49 c_ref09_Check := con_ok (ConsOK.cons ok_ref09_Right (ConsOK.nil)) L_ref09_Check Ls_ref09_Check (B := B_ref09_Check) (BodiesOK.nil) Try.func49 rfl fun x y hf h => (run_ref09_Check x).trans (eq_ref09_Check x y hf h)
noncomputable def L_ref09_Find : List (Nat × LD) := [(2, ⟨⟨[(1, .hole .i), (2, .ptr 0 []), (5, .hole .i)], [(0, (.arr 64 (.st .entry)), .hole (.arr 64 (.st .entry)))], []⟩, [(.ret, ⟨[(4, .hole .i)], [], []⟩), (.exit 0, ⟨[], [], []⟩)], 10⟩)]
noncomputable def Ls_ref09_Find : List (Nat × List (Nat × LD)) := []
noncomputable def B_ref09_Find : Bodies := []
theorem run_ref09_Find (x : denL [(.arr 64 (.st .entry)), .i]) : run [] L_ref09_Find Ls_ref09_Find B_ref09_Find Try.f12 [(.arr 64 (.st .entry)), .i] [.i] x = g_ref09_Find x := by kernel_rfl
theorem ok_ref09_Find : ConOK Try.prog 12 c_ref09_Find := con_ok (ConsOK.nil) L_ref09_Find Ls_ref09_Find (B := B_ref09_Find) (BodiesOK.nil) Try.func12 rfl fun x y hf h => (run_ref09_Find x).trans (eq_ref09_Find x y hf h)
noncomputable def L_ref11_Start : List (Nat × LD) := [(3, ⟨⟨[(0, .ptr 0 []), (1, .ptr 1 []), (2, .hole .i)], [(0, (.st .tree), .hole (.st .tree)), (1, (.st .tree), .hole (.st .tree))], []⟩, [(.exit 0, ⟨[(0, .ptr 0 []), (1, .ptr 1 [])], [(0, (.st .tree), .hole (.st .tree)), (1, (.st .tree), .hole (.st .tree))], []⟩)], 10⟩)]
noncomputable def Ls_ref11_Start : List (Nat × List (Nat × LD)) := []
noncomputable def B_ref11_Start : Bodies := []
theorem run_ref11_Start (x : denL []) : run [] L_ref11_Start Ls_ref11_Start B_ref11_Start Try.f37 [] [(.st .tree)] x = g_ref11_Start x := by kernel_rfl
theorem ok_ref11_Start : ConOK Try.prog 37 c_ref11_Start := con_ok (ConsOK.nil) L_ref11_Start Ls_ref11_Start (B := B_ref11_Start) (BodiesOK.nil) Try.func37 rfl fun x y hf h => (run_ref11_Start x).trans (eq_ref11_Start x y hf h)
noncomputable def L_ref11_Check : List (Nat × LD) := [(4, ⟨⟨[(1, .ptr 0 []), (3, .hole .i)], [(0, (.st .tree), .hole (.st .tree))], []⟩, [(.ret, ⟨[(2, .hole .i)], [], []⟩), (.exit 0, ⟨[(1, .ptr 0 [])], [(0, (.st .tree), .hole (.st .tree))], []⟩)], 10⟩), (14, ⟨⟨[(1, .ptr 0 []), (4, .hole .i), (5, .hole .i)], [(0, (.st .tree), .hole (.st .tree))], []⟩, [(.ret, ⟨[(2, .hole .i)], [], []⟩), (.exit 4, ⟨[(1, .ptr 0 []), (4, .hole .i)], [(0, (.st .tree), .hole (.st .tree))], []⟩)], 10⟩), (9, ⟨⟨[(1, .ptr 0 []), (4, .hole .i)], [(0, (.st .tree), .hole (.st .tree))], []⟩, [(.ret, ⟨[(2, .hole .i)], [], []⟩), (.exit 2, ⟨[], [], []⟩)], 20⟩)]
noncomputable def Ls_ref11_Check : List (Nat × List (Nat × LD)) := []
noncomputable def B_ref11_Check : Bodies := []
theorem run_ref11_Check (x : denL [(.st .tree)]) : run [(48, c_ref10_Check), (49, c_ref09_Check)] L_ref11_Check Ls_ref11_Check B_ref11_Check Try.f25 [(.st .tree)] [.i] x = g_ref11_Check x := by kernel_rfl
theorem ok_ref11_Check : ConOK Try.prog 25 c_ref11_Check := con_ok (ConsOK.cons ok_ref10_Check (ConsOK.cons ok_ref09_Check (ConsOK.nil))) L_ref11_Check Ls_ref11_Check (B := B_ref11_Check) (BodiesOK.nil) Try.func25 rfl fun x y hf h => (run_ref11_Check x).trans (eq_ref11_Check x y hf h)
noncomputable def L_ref11_Of : List (Nat × LD) := []
noncomputable def Ls_ref11_Of : List (Nat × List (Nat × LD)) := []
noncomputable def B_ref11_Of : Bodies := []
theorem run_ref11_Of (x : denL [(.st .tree), .i]) : run [(84, c_ref01_Node), (26, c_ref10_LeafAt)] L_ref11_Of Ls_ref11_Of B_ref11_Of Try.f71 [(.st .tree), .i] [(.st .key), .i] x = g_ref11_Of x := by kernel_rfl
theorem ok_ref11_Of : ConOK Try.prog 71 c_ref11_Of := con_ok (ConsOK.cons ok_ref01_Node (ConsOK.cons ok_ref10_LeafAt (ConsOK.nil))) L_ref11_Of Ls_ref11_Of (B := B_ref11_Of) (BodiesOK.nil) Try.func71 rfl fun x y hf h => (run_ref11_Of x).trans (eq_ref11_Of x y hf h)
noncomputable def L_ref11_PathOf : List (Nat × LD) := [(8, ⟨⟨[(2, .ptr 0 []), (4, .ptr 1 []), (6, .ptr 2 []), (7, .ptr 3 []), (9, .hole .i)], [(0, (.st .tree), .hole (.st .tree)), (1, (.arr 3 (.st .key)), .hole (.arr 3 (.st .key))), (2, (.arr 3 (.st .key)), .hole (.arr 3 (.st .key))), (3, (.arr 3 .i), .hole (.arr 3 .i))], []⟩, [(.exit 0, ⟨[(4, .ptr 1 []), (6, .ptr 2 [])], [(1, (.arr 3 (.st .key)), .hole (.arr 3 (.st .key))), (2, (.arr 3 (.st .key)), .hole (.arr 3 (.st .key)))], []⟩)], 10⟩)]
noncomputable def Ls_ref11_PathOf : List (Nat × List (Nat × LD)) := []
noncomputable def B_ref11_PathOf : Bodies := []
theorem run_ref11_PathOf (x : denL [(.st .tree), .i]) : run [(25, c_ref11_Check), (46, c_ref01_Path)] L_ref11_PathOf Ls_ref11_PathOf B_ref11_PathOf Try.f27 [(.st .tree), .i] [(.arr 3 (.st .key)), .i] x = g_ref11_PathOf x := by kernel_rfl
theorem ok_ref11_PathOf : ConOK Try.prog 27 c_ref11_PathOf := con_ok (ConsOK.cons ok_ref11_Check (ConsOK.cons ok_ref01_Path (ConsOK.nil))) L_ref11_PathOf Ls_ref11_PathOf (B := B_ref11_PathOf) (BodiesOK.nil) Try.func27 rfl fun x y hf h => (run_ref11_PathOf x).trans (eq_ref11_PathOf x y hf h)
noncomputable def L_ref11_Below : List (Nat × LD) := [(2, ⟨⟨[(1, .hole .i), (2, .ptr 0 []), (5, .hole .i)], [(0, (.arr 64 (.st .entry)), .hole (.arr 64 (.st .entry)))], []⟩, [(.ret, ⟨[(4, .hole .bool)], [], []⟩), (.exit 0, ⟨[], [], []⟩)], 10⟩)]
noncomputable def Ls_ref11_Below : List (Nat × List (Nat × LD)) := []
noncomputable def B_ref11_Below : Bodies := []
theorem run_ref11_Below (x : denL [(.arr 64 (.st .entry)), .i]) : run [(47, c_ref01_Leaf), (70, c_ref01_Below)] L_ref11_Below Ls_ref11_Below B_ref11_Below Try.f44 [(.arr 64 (.st .entry)), .i] [.bool] x = g_ref11_Below x := by kernel_rfl
theorem ok_ref11_Below : ConOK Try.prog 44 c_ref11_Below := con_ok (ConsOK.cons ok_ref01_Leaf (ConsOK.cons ok_ref01_Below (ConsOK.nil))) L_ref11_Below Ls_ref11_Below (B := B_ref11_Below) (BodiesOK.nil) Try.func44 rfl fun x y hf h => (run_ref11_Below x).trans (eq_ref11_Below x y hf h)
noncomputable def L_ref11_Stand : List (Nat × LD) := []
noncomputable def Ls_ref11_Stand : List (Nat × List (Nat × LD)) := []
noncomputable def B_ref11_Stand : Bodies := []
theorem run_ref11_Stand (x : denL [(.st .tree), .i]) : run [(25, c_ref11_Check), (12, c_ref09_Find), (26, c_ref10_LeafAt), (27, c_ref11_PathOf)] L_ref11_Stand Ls_ref11_Stand B_ref11_Stand Try.f10 [(.st .tree), .i] [(.st .member), .i] x = g_ref11_Stand x := by kernel_rfl
theorem ok_ref11_Stand : ConOK Try.prog 10 c_ref11_Stand := con_ok (ConsOK.cons ok_ref11_Check (ConsOK.cons ok_ref09_Find (ConsOK.cons ok_ref10_LeafAt (ConsOK.cons ok_ref11_PathOf (ConsOK.nil))))) L_ref11_Stand Ls_ref11_Stand (B := B_ref11_Stand) (BodiesOK.nil) Try.func10 rfl fun x y hf h => (run_ref11_Stand x).trans (eq_ref11_Stand x y hf h)
noncomputable def L_ref11_Card : List (Nat × LD) := []
noncomputable def Ls_ref11_Card : List (Nat × List (Nat × LD)) := []
noncomputable def B_ref11_Card : Bodies := []
theorem run_ref11_Card (x : denL [(.st .tree), .i]) : run [(10, c_ref11_Stand)] L_ref11_Card Ls_ref11_Card B_ref11_Card Try.f14 [(.st .tree), .i] [(.st .card), .i] x = g_ref11_Card x := by kernel_rfl
theorem ok_ref11_Card : ConOK Try.prog 14 c_ref11_Card := con_ok (ConsOK.cons ok_ref11_Stand (ConsOK.nil)) L_ref11_Card Ls_ref11_Card (B := B_ref11_Card) (BodiesOK.nil) Try.func14 rfl fun x y hf h => (run_ref11_Card x).trans (eq_ref11_Card x y hf h)
noncomputable def L_ref08_Places : List (Nat × LD) := [(3, ⟨⟨[(0, .hole (.int .u64)), (2, .ptr 0 []), (3, .ptr 1 []), (4, .hole .i)], [(0, (.arr 64 .bool), .hole (.arr 64 .bool)), (1, (.arr 64 .bool), .hole (.arr 64 .bool))], []⟩, [(.exit 0, ⟨[(2, .ptr 0 []), (3, .ptr 1 [])], [(0, (.arr 64 .bool), .hole (.arr 64 .bool)), (1, (.arr 64 .bool), .hole (.arr 64 .bool))], []⟩)], 10⟩)]
noncomputable def Ls_ref08_Places : List (Nat × List (Nat × LD)) := []
noncomputable def B_ref08_Places : Bodies := []
theorem run_ref08_Places (x : denL [(.int .u64)]) : run [] L_ref08_Places Ls_ref08_Places B_ref08_Places Try.f91 [(.int .u64)] [(.arr 64 .bool)] x = g_ref08_Places x := by kernel_rfl
theorem ok_ref08_Places : ConOK Try.prog 91 c_ref08_Places := con_ok (ConsOK.nil) L_ref08_Places Ls_ref08_Places (B := B_ref08_Places) (BodiesOK.nil) Try.func91 rfl fun x y hf h => (run_ref08_Places x).trans (eq_ref08_Places x y hf h)
noncomputable def L_ref08_Word : List (Nat × LD) := [(3, ⟨⟨[(1, .ptr 0 []), (3, .hole (.int .u64)), (4, .hole .i)], [(0, (.arr 64 .bool), .hole (.arr 64 .bool))], []⟩, [(.exit 0, ⟨[(3, .hole (.int .u64))], [], []⟩)], 10⟩)]
noncomputable def Ls_ref08_Word : List (Nat × List (Nat × LD)) := []
noncomputable def B_ref08_Word : Bodies := []
theorem run_ref08_Word (x : denL [(.arr 64 .bool)]) : run [] L_ref08_Word Ls_ref08_Word B_ref08_Word Try.f83 [(.arr 64 .bool)] [(.int .u64)] x = g_ref08_Word x := by kernel_rfl
theorem ok_ref08_Word : ConOK Try.prog 83 c_ref08_Word := con_ok (ConsOK.nil) L_ref08_Word Ls_ref08_Word (B := B_ref08_Word) (BodiesOK.nil) Try.func83 rfl fun x y hf h => (run_ref08_Word x).trans (eq_ref08_Word x y hf h)
noncomputable def L_ref08_List : List (Nat × LD) := [(4, ⟨⟨[(3, .ptr 0 []), (4, .row .i), (5, .hole .i)], [(0, (.arr 64 .bool), .hole (.arr 64 .bool))], []⟩, [(.exit 0, ⟨[(4, .row .i)], [], []⟩)], 13⟩)]
noncomputable def Ls_ref08_List : List (Nat × List (Nat × LD)) := []
noncomputable def B_ref08_List : Bodies := []
theorem run_ref08_List (x : denL [(.int .u64)]) : run [(91, c_ref08_Places)] L_ref08_List Ls_ref08_List B_ref08_List Try.f82 [(.int .u64)] [(.list .i)] x = g_ref08_List x := by kernel_rfl
theorem ok_ref08_List : ConOK Try.prog 82 c_ref08_List := con_ok (ConsOK.cons ok_ref08_Places (ConsOK.nil)) L_ref08_List Ls_ref08_List (B := B_ref08_List) (BodiesOK.nil) Try.func82 rfl fun x y hf h => (run_ref08_List x).trans (eq_ref08_List x y hf h)
noncomputable def L_ref08_Count : List (Nat × LD) := []
noncomputable def Ls_ref08_Count : List (Nat × List (Nat × LD)) := []
noncomputable def B_ref08_Count : Bodies := []
theorem run_ref08_Count (x : denL [(.int .u64)]) : run [(82, c_ref08_List)] L_ref08_Count Ls_ref08_Count B_ref08_Count Try.f66 [(.int .u64)] [.i] x = g_ref08_Count x := by kernel_rfl
theorem ok_ref08_Count : ConOK Try.prog 66 c_ref08_Count := con_ok (ConsOK.cons ok_ref08_List (ConsOK.nil)) L_ref08_Count Ls_ref08_Count (B := B_ref08_Count) (BodiesOK.nil) Try.func66 rfl fun x y hf h => (run_ref08_Count x).trans (eq_ref08_Count x y hf h)
noncomputable def L_ref09_Taken : List (Nat × LD) := [(3, ⟨⟨[(1, .ptr 0 []), (3, .ptr 1 []), (4, .hole .i)], [(0, (.arr 64 (.st .entry)), .hole (.arr 64 (.st .entry))), (1, (.arr 64 .bool), .hole (.arr 64 .bool))], []⟩, [(.exit 0, ⟨[(3, .ptr 1 [])], [(1, (.arr 64 .bool), .hole (.arr 64 .bool))], []⟩)], 10⟩)]
noncomputable def Ls_ref09_Taken : List (Nat × List (Nat × LD)) := []
noncomputable def B_ref09_Taken : Bodies := []
theorem run_ref09_Taken (x : denL [(.arr 64 (.st .entry))]) : run [(83, c_ref08_Word)] L_ref09_Taken Ls_ref09_Taken B_ref09_Taken Try.f67 [(.arr 64 (.st .entry))] [(.int .u64)] x = g_ref09_Taken x := by kernel_rfl
theorem ok_ref09_Taken : ConOK Try.prog 67 c_ref09_Taken := con_ok (ConsOK.cons ok_ref08_Word (ConsOK.nil)) L_ref09_Taken Ls_ref09_Taken (B := B_ref09_Taken) (BodiesOK.nil) Try.func67 rfl fun x y hf h => (run_ref09_Taken x).trans (eq_ref09_Taken x y hf h)
noncomputable def L_ref09_person : List (Nat × LD) := []
noncomputable def Ls_ref09_person : List (Nat × List (Nat × LD)) := []
noncomputable def B_ref09_person : Bodies := []
theorem run_ref09_person (x : denL [(.arr 64 (.st .entry)), (.arr 256 .bool), .i, .bool]) : run [(12, c_ref09_Find)] L_ref09_person Ls_ref09_person B_ref09_person Try.f65 [(.arr 64 (.st .entry)), (.arr 256 .bool), .i, .bool] [.i] x = g_ref09_person x := by kernel_rfl
theorem ok_ref09_person : ConOK Try.prog 65 c_ref09_person := con_ok (ConsOK.cons ok_ref09_Find (ConsOK.nil)) L_ref09_person Ls_ref09_person (B := B_ref09_person) (BodiesOK.nil) Try.func65 rfl fun x y hf h => (run_ref09_person x).trans (eq_ref09_person x y hf h)
noncomputable def L_ref09_Fits : List (Nat × LD) := [(5, ⟨⟨[(2, .ptr 0 []), (3, .ptr 1 []), (5, .ptr 2 []), (16, .hole (.list .i)), (17, .hole .i), (18, .hole .i)], [(0, (.arr 64 (.st .entry)), .hole (.arr 64 (.st .entry))), (1, (.st .batch), .hole (.st .batch)), (2, (.arr 256 .bool), .hole (.arr 256 .bool))], []⟩, [(.ret, ⟨[(4, .hole .i)], [], []⟩), (.exit 0, ⟨[(2, .ptr 0 []), (3, .ptr 1 []), (5, .ptr 2 [])], [(0, (.arr 64 (.st .entry)), .hole (.arr 64 (.st .entry))), (1, (.st .batch), .hole (.st .batch)), (2, (.arr 256 .bool), .hole (.arr 256 .bool))], []⟩)], 10⟩), (13, ⟨⟨[(2, .ptr 0 []), (3, .ptr 1 []), (5, .ptr 2 []), (33, .hole (.list .i)), (34, .hole .i), (35, .hole .i)], [(0, (.arr 64 (.st .entry)), .hole (.arr 64 (.st .entry))), (1, (.st .batch), .hole (.st .batch)), (2, (.arr 256 .bool), .hole (.arr 256 .bool))], []⟩, [(.ret, ⟨[(4, .hole .i)], [], []⟩), (.exit 2, ⟨[(2, .ptr 0 []), (3, .ptr 1 [])], [(0, (.arr 64 (.st .entry)), .hole (.arr 64 (.st .entry))), (1, (.st .batch), .hole (.st .batch))], []⟩)], 10⟩)]
noncomputable def Ls_ref09_Fits : List (Nat × List (Nat × LD)) := []
noncomputable def B_ref09_Fits : Bodies := []
theorem run_ref09_Fits (x : denL [(.arr 64 (.st .entry)), (.st .batch)]) : run [(49, c_ref09_Check), (65, c_ref09_person), (67, c_ref09_Taken), (66, c_ref08_Count)] L_ref09_Fits Ls_ref09_Fits B_ref09_Fits Try.f38 [(.arr 64 (.st .entry)), (.st .batch)] [.i] x = g_ref09_Fits x := by kernel_rfl
theorem ok_ref09_Fits : ConOK Try.prog 38 c_ref09_Fits := con_ok (ConsOK.cons ok_ref09_Check (ConsOK.cons ok_ref09_person (ConsOK.cons ok_ref09_Taken (ConsOK.cons ok_ref08_Count (ConsOK.nil))))) L_ref09_Fits Ls_ref09_Fits (B := B_ref09_Fits) (BodiesOK.nil) Try.func38 rfl fun x y hf h => (run_ref09_Fits x).trans (eq_ref09_Fits x y hf h)
noncomputable def L_ref09_Move : List (Nat × LD) := [(10, ⟨⟨[(2, .hole .i), (3, .hole .i), (4, .ptr 0 []), (5, .ptr 1 []), (8, .ptr 2 []), (13, .hole .i), (14, .hole .i)], [(0, (.arr 64 (.st .entry)), .hole (.arr 64 (.st .entry))), (1, (.st .batch), .hole (.st .batch)), (2, (.arr 64 (.st .entry)), .hole (.arr 64 (.st .entry)))], []⟩, [(.ret, ⟨[(8, .ptr 2 []), (9, .nils), (10, .nils), (11, .hole .i)], [(2, (.arr 64 (.st .entry)), .hole (.arr 64 (.st .entry)))], []⟩), (.exit 0, ⟨[(2, .hole .i), (3, .hole .i), (4, .ptr 0 []), (5, .ptr 1 []), (8, .ptr 2 [])], [(0, (.arr 64 (.st .entry)), .hole (.arr 64 (.st .entry))), (1, (.st .batch), .hole (.st .batch)), (2, (.arr 64 (.st .entry)), .hole (.arr 64 (.st .entry)))], []⟩)], 10⟩), (16, ⟨⟨[(2, .hole .i), (3, .hole .i), (4, .ptr 0 []), (5, .ptr 1 []), (8, .ptr 2 []), (15, .row (.st .seat)), (16, .nils), (79, .hole (.list .i)), (80, .hole .i), (81, .hole .i)], [(0, (.arr 64 (.st .entry)), .hole (.arr 64 (.st .entry))), (1, (.st .batch), .hole (.st .batch)), (2, (.arr 64 (.st .entry)), .hole (.arr 64 (.st .entry)))], []⟩, [(.exit 2, ⟨[(2, .hole .i), (3, .hole .i), (4, .ptr 0 []), (5, .ptr 1 []), (8, .ptr 2 []), (15, .row (.st .seat)), (16, .nils)], [(0, (.arr 64 (.st .entry)), .hole (.arr 64 (.st .entry))), (1, (.st .batch), .hole (.st .batch)), (2, (.arr 64 (.st .entry)), .hole (.arr 64 (.st .entry)))], []⟩)], 13⟩), (26, ⟨⟨[(2, .hole .i), (3, .hole .i), (4, .ptr 0 []), (8, .ptr 2 []), (15, .row (.st .seat)), (16, .row (.st .seat)), (20, .hole .i), (21, .hole .i), (22, .hole .i), (99, .hole (.list .i)), (100, .hole .i), (101, .hole .i)], [(0, (.arr 64 (.st .entry)), .hole (.arr 64 (.st .entry))), (2, (.arr 64 (.st .entry)), .hole (.arr 64 (.st .entry)))], []⟩, [(.exit 6, ⟨[(2, .hole .i), (3, .hole .i), (4, .ptr 0 []), (8, .ptr 2 []), (15, .row (.st .seat)), (16, .row (.st .seat)), (20, .hole .i), (21, .hole .i), (22, .hole .i), (99, .hole (.list .i)), (100, .hole .i), (101, .hole .i)], [(0, (.arr 64 (.st .entry)), .hole (.arr 64 (.st .entry))), (2, (.arr 64 (.st .entry)), .hole (.arr 64 (.st .entry)))], []⟩)], 12⟩), (23, ⟨⟨[(2, .hole .i), (3, .hole .i), (4, .ptr 0 []), (8, .ptr 2 []), (15, .row (.st .seat)), (16, .row (.st .seat)), (99, .hole (.list .i)), (100, .hole .i), (101, .hole .i)], [(0, (.arr 64 (.st .entry)), .hole (.arr 64 (.st .entry))), (2, (.arr 64 (.st .entry)), .hole (.arr 64 (.st .entry)))], []⟩, [(.exit 4, ⟨[(4, .ptr 0 []), (8, .ptr 2 []), (15, .row (.st .seat)), (16, .row (.st .seat))], [(0, (.arr 64 (.st .entry)), .hole (.arr 64 (.st .entry))), (2, (.arr 64 (.st .entry)), .hole (.arr 64 (.st .entry)))], []⟩)], 24⟩)]
noncomputable def Ls_ref09_Move : List (Nat × List (Nat × LD)) := []
noncomputable def B_ref09_Move : Bodies := []
theorem run_ref09_Move (x : denL [(.arr 64 (.st .entry)), (.st .batch), .i, .i]) : run [(38, c_ref09_Fits), (12, c_ref09_Find)] L_ref09_Move Ls_ref09_Move B_ref09_Move Try.f41 [(.arr 64 (.st .entry)), (.st .batch), .i, .i] [(.arr 64 (.st .entry)), (.list (.st .seat)), (.list (.st .seat)), .i] x = g_ref09_Move x := by kernel_rfl
theorem ok_ref09_Move : ConOK Try.prog 41 c_ref09_Move := con_ok (ConsOK.cons ok_ref09_Fits (ConsOK.cons ok_ref09_Find (ConsOK.nil))) L_ref09_Move Ls_ref09_Move (B := B_ref09_Move) (BodiesOK.nil) Try.func41 rfl fun x y hf h => (run_ref09_Move x).trans (eq_ref09_Move x y hf h)
noncomputable def L_ref11_Replaced : List (Nat × LD) := [(7, ⟨⟨[(0, .hole (.list (.st .seat))), (3, .hole (.int .u32)), (4, .hole (.int .u32)), (5, .hole .i), (12, .hole (.list (.st .seat))), (13, .hole .i), (14, .hole .i)], [], []⟩, [(.exit 2, ⟨[(0, .hole (.list (.st .seat))), (3, .hole (.int .u32)), (4, .hole (.int .u32)), (5, .hole .i)], [], []⟩)], 11⟩), (4, ⟨⟨[(0, .hole (.list (.st .seat))), (3, .hole (.int .u32)), (4, .hole (.int .u32)), (5, .hole .i)], [], []⟩, [(.exit 0, ⟨[(3, .hole (.int .u32))], [], []⟩)], 22⟩)]
noncomputable def Ls_ref11_Replaced : List (Nat × List (Nat × LD)) := []
noncomputable def B_ref11_Replaced : Bodies := []
theorem run_ref11_Replaced (x : denL [(.list (.st .seat))]) : run [(47, c_ref01_Leaf), (70, c_ref01_Below)] L_ref11_Replaced Ls_ref11_Replaced B_ref11_Replaced Try.f40 [(.list (.st .seat))] [(.int .u32)] x = g_ref11_Replaced x := by kernel_rfl
theorem ok_ref11_Replaced : ConOK Try.prog 40 c_ref11_Replaced := con_ok (ConsOK.cons ok_ref01_Leaf (ConsOK.cons ok_ref01_Below (ConsOK.nil))) L_ref11_Replaced Ls_ref11_Replaced (B := B_ref11_Replaced) (BodiesOK.nil) Try.func40 rfl fun x y hf h => (run_ref11_Replaced x).trans (eq_ref11_Replaced x y hf h)
noncomputable def L_ref11_Next : List (Nat × LD) := [(10, ⟨⟨[(2, .ptr 0 []), (3, .ptr 1 []), (4, .ptr 2 []), (9, .row (.st .seat)), (34, .hole (.list .i)), (35, .hole .i), (36, .hole .i)], [(0, (.st .tree), .hole (.st .tree)), (1, (.st .batch), .hole (.st .batch)), (2, (.st .tree), .hole (.st .tree))], []⟩, [(.exit 0, ⟨[(2, .ptr 0 []), (3, .ptr 1 []), (4, .ptr 2 []), (9, .row (.st .seat))], [(0, (.st .tree), .hole (.st .tree)), (1, (.st .batch), .hole (.st .batch)), (2, (.st .tree), .hole (.st .tree))], []⟩)], 13⟩)]
noncomputable def Ls_ref11_Next : List (Nat × List (Nat × LD)) := []
noncomputable def B_ref11_Next : Bodies := []
theorem run_ref11_Next (x : denL [(.st .tree), (.st .batch)]) : run [(25, c_ref11_Check), (38, c_ref09_Fits), (12, c_ref09_Find), (40, c_ref11_Replaced), (39, c_ref10_Turn), (41, c_ref09_Move)] L_ref11_Next Ls_ref11_Next B_ref11_Next Try.f23 [(.st .tree), (.st .batch)] [(.st .tree), (.list (.st .seat)), (.list (.st .seat)), .i] x = g_ref11_Next x := by kernel_rfl
theorem ok_ref11_Next : ConOK Try.prog 23 c_ref11_Next := con_ok (ConsOK.cons ok_ref11_Check (ConsOK.cons ok_ref09_Fits (ConsOK.cons ok_ref09_Find (ConsOK.cons ok_ref11_Replaced (ConsOK.cons ok_ref10_Turn (ConsOK.cons ok_ref09_Move (ConsOK.nil))))))) L_ref11_Next Ls_ref11_Next (B := B_ref11_Next) (BodiesOK.nil) Try.func23 rfl fun x y hf h => (run_ref11_Next x).trans (eq_ref11_Next x y hf h)
noncomputable def L_ref12_item : List (Nat × LD) := []
noncomputable def Ls_ref12_item : List (Nat × List (Nat × LD)) := []
noncomputable def B_ref12_item : Bodies := []
theorem run_ref12_item (x : denL [(.st .tree), .i, .i]) : run [(71, c_ref11_Of)] L_ref12_item Ls_ref12_item B_ref12_item Try.f45 [(.st .tree), .i, .i] [(.st .item)] x = g_ref12_item x := by kernel_rfl
theorem ok_ref12_item : ConOK Try.prog 45 c_ref12_item := con_ok (ConsOK.cons ok_ref11_Of (ConsOK.nil)) L_ref12_item Ls_ref12_item (B := B_ref12_item) (BodiesOK.nil) Try.func45 rfl fun x y hf h => (run_ref12_item x).trans (eq_ref12_item x y hf h)
noncomputable def L_ref12_Items : List (Nat × LD) := [(7, ⟨⟨[(2, .hole (.list (.st .seat))), (3, .ptr 0 []), (7, .hole (.int .u32)), (8, .row (.st .item)), (9, .hole .i), (10, .hole .i)], [(0, (.st .tree), .hole (.st .tree))], []⟩, [(.exit 2, ⟨[(2, .hole (.list (.st .seat))), (3, .ptr 0 []), (7, .hole (.int .u32)), (8, .row (.st .item)), (9, .hole .i)], [(0, (.st .tree), .hole (.st .tree))], []⟩)], 13⟩), (4, ⟨⟨[(2, .hole (.list (.st .seat))), (3, .ptr 0 []), (7, .hole (.int .u32)), (8, .row (.st .item)), (9, .hole .i)], [(0, (.st .tree), .hole (.st .tree))], []⟩, [(.exit 0, ⟨[(2, .hole (.list (.st .seat))), (3, .ptr 0 []), (7, .hole (.int .u32)), (8, .row (.st .item))], [(0, (.st .tree), .hole (.st .tree))], []⟩)], 25⟩), (17, ⟨⟨[(3, .ptr 0 []), (7, .hole (.int .u32)), (8, .row (.st .item)), (13, .ptr 27 []), (14, .ptr 28 []), (16, .hole .i), (46, .hole (.list (.st .seat))), (47, .hole .i), (48, .hole .i)], [(0, (.st .tree), .hole (.st .tree)), (27, (.st .seat), .hole (.st .seat)), (28, (.arr 3 .i), .hole (.arr 3 .i))], []⟩, [(.exit 6, ⟨[(3, .ptr 0 []), (7, .hole (.int .u32)), (8, .row (.st .item)), (46, .hole (.list (.st .seat))), (47, .hole .i), (48, .hole .i)], [(0, (.st .tree), .hole (.st .tree))], []⟩)], 13⟩), (13, ⟨⟨[(3, .ptr 0 []), (7, .hole (.int .u32)), (8, .row (.st .item)), (46, .hole (.list (.st .seat))), (47, .hole .i), (48, .hole .i)], [(0, (.st .tree), .hole (.st .tree))], []⟩, [(.exit 4, ⟨[(8, .row (.st .item))], [], []⟩)], 27⟩)]
noncomputable def Ls_ref12_Items : List (Nat × List (Nat × LD)) := []
noncomputable def B_ref12_Items : Bodies := []
theorem run_ref12_Items (x : denL [(.st .tree), (.list (.st .seat)), (.list (.st .seat))]) : run [(40, c_ref11_Replaced), (42, c_ref01_In), (43, c_ref01_Child), (44, c_ref11_Below), (45, c_ref12_item), (46, c_ref01_Path), (47, c_ref01_Leaf)] L_ref12_Items Ls_ref12_Items B_ref12_Items Try.f24 [(.st .tree), (.list (.st .seat)), (.list (.st .seat))] [(.list (.st .item))] x = g_ref12_Items x := by kernel_rfl
theorem ok_ref12_Items : ConOK Try.prog 24 c_ref12_Items := con_ok (ConsOK.cons ok_ref11_Replaced (ConsOK.cons ok_ref01_In (ConsOK.cons ok_ref01_Child (ConsOK.cons ok_ref11_Below (ConsOK.cons ok_ref12_item (ConsOK.cons ok_ref01_Path (ConsOK.cons ok_ref01_Leaf (ConsOK.nil)))))))) L_ref12_Items Ls_ref12_Items (B := B_ref12_Items) (BodiesOK.nil) Try.func24 rfl fun x y hf h => (run_ref12_Items x).trans (eq_ref12_Items x y hf h)
noncomputable def L_ref12_Next : List (Nat × LD) := []
noncomputable def Ls_ref12_Next : List (Nat × List (Nat × LD)) := []
noncomputable def B_ref12_Next : Bodies := []
theorem run_ref12_Next (x : denL [(.st .tree), (.st .batch)]) : run [(23, c_ref11_Next), (24, c_ref12_Items)] L_ref12_Next Ls_ref12_Next B_ref12_Next Try.f9 [(.st .tree), (.st .batch)] [(.st .tree), (.st .rekey), .i] x = g_ref12_Next x := by kernel_rfl
theorem ok_ref12_Next : ConOK Try.prog 9 c_ref12_Next := con_ok (ConsOK.cons ok_ref11_Next (ConsOK.cons ok_ref12_Items (ConsOK.nil))) L_ref12_Next Ls_ref12_Next (B := B_ref12_Next) (BodiesOK.nil) Try.func9 rfl fun x y hf h => (run_ref12_Next x).trans (eq_ref12_Next x y hf h)
noncomputable def L_shape_first : List (Nat × LD) := []
noncomputable def Ls_shape_first : List (Nat × List (Nat × LD)) := []
noncomputable def B_shape_first : Bodies := []
theorem run_shape_first (x : denL [.i]) : run [] L_shape_first Ls_shape_first B_shape_first Try.f87 [.i] [.i] x = g_shape_first x := by kernel_rfl
theorem ok_shape_first : ConOK Try.prog 87 c_shape_first := con_ok (ConsOK.nil) L_shape_first Ls_shape_first (B := B_shape_first) (BodiesOK.nil) Try.func87 rfl fun x y hf h => (run_shape_first x).trans (eq_shape_first x y hf h)
noncomputable def L_shape_Level : List (Nat × LD) := [(5, ⟨⟨[(0, .hole .i), (3, .hole .i)], [], []⟩, [(.ret, ⟨[(2, .hole .i)], [], []⟩)], 10⟩)]
noncomputable def Ls_shape_Level : List (Nat × List (Nat × LD)) := []
noncomputable def B_shape_Level : Bodies := []
theorem run_shape_Level (x : denL [.i]) : run [(87, c_shape_first)] L_shape_Level Ls_shape_Level B_shape_Level Try.f85 [.i] [.i] x = g_shape_Level x := by kernel_rfl
theorem ok_shape_Level : ConOK Try.prog 85 c_shape_Level := con_ok (ConsOK.cons ok_shape_first (ConsOK.nil)) L_shape_Level Ls_shape_Level (B := B_shape_Level) (BodiesOK.nil) Try.func85 rfl fun x y hf h => (run_shape_Level x).trans (eq_shape_Level x y hf h)
noncomputable def L_shape_span : List (Nat × LD) := []
noncomputable def Ls_shape_span : List (Nat × List (Nat × LD)) := []
noncomputable def B_shape_span : Bodies := []
theorem run_shape_span (x : denL [.i]) : run [(85, c_shape_Level), (87, c_shape_first)] L_shape_span Ls_shape_span B_shape_span Try.f92 [.i] [.i, .i] x = g_shape_span x := by kernel_rfl
theorem ok_shape_span : ConOK Try.prog 92 c_shape_span := con_ok (ConsOK.cons ok_shape_Level (ConsOK.cons ok_shape_first (ConsOK.nil))) L_shape_span Ls_shape_span (B := B_shape_span) (BodiesOK.nil) Try.func92 rfl fun x y hf h => (run_shape_span x).trans (eq_shape_span x y hf h)
noncomputable def L_shape_Mask : List (Nat × LD) := []
noncomputable def Ls_shape_Mask : List (Nat × List (Nat × LD)) := []
noncomputable def B_shape_Mask : Bodies := []
theorem run_shape_Mask (x : denL [.i]) : run [(85, c_shape_Level), (92, c_shape_span)] L_shape_Mask Ls_shape_Mask B_shape_Mask Try.f86 [.i] [(.int .u64)] x = g_shape_Mask x := by kernel_rfl
theorem ok_shape_Mask : ConOK Try.prog 86 c_shape_Mask := con_ok (ConsOK.cons ok_shape_Level (ConsOK.cons ok_shape_span (ConsOK.nil))) L_shape_Mask Ls_shape_Mask (B := B_shape_Mask) (BodiesOK.nil) Try.func86 rfl fun x y hf h => (run_shape_Mask x).trans (eq_shape_Mask x y hf h)
noncomputable def L_shape_Below : List (Nat × LD) := []
noncomputable def Ls_shape_Below : List (Nat × List (Nat × LD)) := []
noncomputable def B_shape_Below : Bodies := []
theorem run_shape_Below (x : denL [.i, .i]) : run [(85, c_shape_Level), (86, c_shape_Mask)] L_shape_Below Ls_shape_Below B_shape_Below Try.f74 [.i, .i] [.bool] x = g_shape_Below x := by kernel_rfl
theorem ok_shape_Below : ConOK Try.prog 74 c_shape_Below := con_ok (ConsOK.cons ok_shape_Level (ConsOK.cons ok_shape_Mask (ConsOK.nil))) L_shape_Below Ls_shape_Below (B := B_shape_Below) (BodiesOK.nil) Try.func74 rfl fun x y hf h => (run_shape_Below x).trans (eq_shape_Below x y hf h)
noncomputable def L_shape_Leaf : List (Nat × LD) := []
noncomputable def Ls_shape_Leaf : List (Nat × List (Nat × LD)) := []
noncomputable def B_shape_Leaf : Bodies := []
theorem run_shape_Leaf (x : denL [.i]) : run [] L_shape_Leaf Ls_shape_Leaf B_shape_Leaf Try.f77 [.i] [.i] x = g_shape_Leaf x := by kernel_rfl
theorem ok_shape_Leaf : ConOK Try.prog 77 c_shape_Leaf := con_ok (ConsOK.nil) L_shape_Leaf Ls_shape_Leaf (B := B_shape_Leaf) (BodiesOK.nil) Try.func77 rfl fun x y hf h => (run_shape_Leaf x).trans (eq_shape_Leaf x y hf h)
noncomputable def L_shape_Path : List (Nat × LD) := [(5, ⟨⟨[(0, .hole .i), (2, .ptr 0 []), (4, .ptr 1 []), (11, .hole .i)], [(0, (.arr 3 .i), .hole (.arr 3 .i)), (1, (.arr 3 .i), .hole (.arr 3 .i))], []⟩, [(.exit 0, ⟨[(2, .ptr 0 []), (4, .ptr 1 [])], [(0, (.arr 3 .i), .hole (.arr 3 .i)), (1, (.arr 3 .i), .hole (.arr 3 .i))], []⟩)], 10⟩)]
noncomputable def Ls_shape_Path : List (Nat × List (Nat × LD)) := []
noncomputable def B_shape_Path : Bodies := []
theorem run_shape_Path (x : denL [.i]) : run [(77, c_shape_Leaf), (87, c_shape_first)] L_shape_Path Ls_shape_Path B_shape_Path Try.f76 [.i] [(.arr 3 .i), .bool] x = g_shape_Path x := by kernel_rfl
theorem ok_shape_Path : ConOK Try.prog 76 c_shape_Path := con_ok (ConsOK.cons ok_shape_Leaf (ConsOK.cons ok_shape_first (ConsOK.nil))) L_shape_Path Ls_shape_Path (B := B_shape_Path) (BodiesOK.nil) Try.func76 rfl fun x y hf h => (run_shape_Path x).trans (eq_shape_Path x y hf h)
noncomputable def L_shape_Above : List (Nat × LD) := [(3, ⟨⟨[(0, .hole (.int .u64)), (3, .hole (.int .u32)), (5, .hole .i)], [], []⟩, [(.exit 0, ⟨[(3, .hole (.int .u32))], [], []⟩)], 10⟩)]
noncomputable def Ls_shape_Above : List (Nat × List (Nat × LD)) := []
noncomputable def B_shape_Above : Bodies := []
theorem run_shape_Above (x : denL [(.int .u64)]) : run [(86, c_shape_Mask)] L_shape_Above Ls_shape_Above B_shape_Above Try.f90 [(.int .u64)] [(.int .u32)] x = g_shape_Above x := by kernel_rfl
theorem ok_shape_Above : ConOK Try.prog 90 c_shape_Above := con_ok (ConsOK.cons ok_shape_Mask (ConsOK.nil)) L_shape_Above Ls_shape_Above (B := B_shape_Above) (BodiesOK.nil) Try.func90 rfl fun x y hf h => (run_shape_Above x).trans (eq_shape_Above x y hf h)
noncomputable def L_member_between : List (Nat × LD) := []
noncomputable def Ls_member_between : List (Nat × List (Nat × LD)) := []
noncomputable def B_member_between : Bodies := []
theorem run_member_between (x : denL [.i, .i, .i]) : run [] L_member_between Ls_member_between B_member_between Try.f32 [.i, .i, .i] [.bool] x = g_member_between x := by kernel_rfl
theorem ok_member_between : ConOK Try.prog 32 c_member_between := con_ok (ConsOK.nil) L_member_between Ls_member_between (B := B_member_between) (BodiesOK.nil) Try.func32 rfl fun x y hf h => (run_member_between x).trans (eq_member_between x y hf h)
noncomputable def L_member_card : List (Nat × LD) := []
noncomputable def Ls_member_card : List (Nat × List (Nat × LD)) := []
noncomputable def B_member_card : Bodies := []
theorem run_member_card (x : denL [(.st .card)]) : run [(32, c_member_between), (35, c_key_Good)] L_member_card Ls_member_card B_member_card Try.f31 [(.st .card)] [.bool] x = g_member_card x := by kernel_rfl
theorem ok_member_card : ConOK Try.prog 31 c_member_card := con_ok (ConsOK.cons ok_member_between (ConsOK.cons ok_key_Good (ConsOK.nil))) L_member_card Ls_member_card (B := B_member_card) (BodiesOK.nil) Try.func31 rfl fun x y hf h => (run_member_card x).trans (eq_member_card x y hf h)
noncomputable def L_member_Kind : List (Nat × LD) := []
noncomputable def Ls_member_Kind : List (Nat × List (Nat × LD)) := [(64, [(2, ⟨⟨[(0, .asl 0 [.fld 4]), (1, .fn 34 []), (7, .hole .i), (8, .hole .i)], [(0, (.st .member), .hole (.st .member))], []⟩, [(.ret, ⟨[(4, .hole .i)], [(0, (.st .member), .hole (.st .member))], []⟩), (.exit 0, ⟨[], [(0, (.st .member), .hole (.st .member))], []⟩)], 10⟩)])]
noncomputable def B_member_Kind : Bodies := [bodyLine 33 Try.f33, bodyLine 64 Try.f64, bodyLine 34 Try.f34]
theorem run_member_Kind (x : denL [(.st .member)]) : run [(32, c_member_between), (31, c_member_card), (35, c_key_Good)] L_member_Kind Ls_member_Kind B_member_Kind Try.f16 [(.st .member)] [.i] x = g_member_Kind x := by kernel_rfl
theorem ok_member_Kind : ConOK Try.prog 16 c_member_Kind := con_ok (ConsOK.cons ok_member_between (ConsOK.cons ok_member_card (ConsOK.cons ok_key_Good (ConsOK.nil)))) L_member_Kind Ls_member_Kind (B := B_member_Kind) (BodiesOK.cons Try.func33 rfl (BodiesOK.cons Try.func64 rfl (BodiesOK.cons Try.func34 rfl (BodiesOK.nil)))) Try.func16 rfl fun x y hf h => (run_member_Kind x).trans (eq_member_Kind x y hf h)
noncomputable def L_member_Group : List (Nat × LD) := []
noncomputable def Ls_member_Group : List (Nat × List (Nat × LD)) := []
noncomputable def B_member_Group : Bodies := []
theorem run_member_Group (x : denL [(.st .member)]) : run [(16, c_member_Kind)] L_member_Group Ls_member_Group B_member_Group Try.f18 [(.st .member)] [(.st .key), .i] x = g_member_Group x := by kernel_rfl
theorem ok_member_Group : ConOK Try.prog 18 c_member_Group := con_ok (ConsOK.cons ok_member_Kind (ConsOK.nil)) L_member_Group Ls_member_Group (B := B_member_Group) (BodiesOK.nil) Try.func18 rfl fun x y hf h => (run_member_Group x).trans (eq_member_Group x y hf h)
noncomputable def L_ref15_GoodCard : List (Nat × LD) := []
noncomputable def Ls_ref15_GoodCard : List (Nat × List (Nat × LD)) := []
noncomputable def B_ref15_GoodCard : Bodies := []
theorem run_ref15_GoodCard (x : denL [(.st .card)]) : run [(30, c_ref02_Good)] L_ref15_GoodCard Ls_ref15_GoodCard B_ref15_GoodCard Try.f36 [(.st .card)] [.bool] x = g_ref15_GoodCard x := by kernel_rfl
theorem ok_ref15_GoodCard : ConOK Try.prog 36 c_ref15_GoodCard := con_ok (ConsOK.cons ok_ref02_Good (ConsOK.nil)) L_ref15_GoodCard Ls_ref15_GoodCard (B := B_ref15_GoodCard) (BodiesOK.nil) Try.func36 rfl fun x y hf h => (run_ref15_GoodCard x).trans (eq_ref15_GoodCard x y hf h)
noncomputable def L_ref15_Kind : List (Nat × LD) := [(14, ⟨⟨[(1, .ptr 0 []), (3, .hole .i)], [(0, (.st .member), .hole (.st .member))], []⟩, [(.ret, ⟨[(2, .hole .i)], [], []⟩), (.exit 0, ⟨[], [], []⟩)], 10⟩)]
noncomputable def Ls_ref15_Kind : List (Nat × List (Nat × LD)) := []
noncomputable def B_ref15_Kind : Bodies := []
theorem run_ref15_Kind (x : denL [(.st .member)]) : run [(36, c_ref15_GoodCard), (30, c_ref02_Good)] L_ref15_Kind Ls_ref15_Kind B_ref15_Kind Try.f17 [(.st .member)] [.i] x = g_ref15_Kind x := by kernel_rfl
theorem ok_ref15_Kind : ConOK Try.prog 17 c_ref15_Kind := con_ok (ConsOK.cons ok_ref15_GoodCard (ConsOK.cons ok_ref02_Good (ConsOK.nil))) L_ref15_Kind Ls_ref15_Kind (B := B_ref15_Kind) (BodiesOK.nil) Try.func17 rfl fun x y hf h => (run_ref15_Kind x).trans (eq_ref15_Kind x y hf h)
noncomputable def L_ref15_Group : List (Nat × LD) := []
noncomputable def Ls_ref15_Group : List (Nat × List (Nat × LD)) := []
noncomputable def B_ref15_Group : Bodies := []
theorem run_ref15_Group (x : denL [(.st .member)]) : run [(17, c_ref15_Kind)] L_ref15_Group Ls_ref15_Group B_ref15_Group Try.f19 [(.st .member)] [(.st .key), .i] x = g_ref15_Group x := by kernel_rfl
theorem ok_ref15_Group : ConOK Try.prog 19 c_ref15_Group := con_ok (ConsOK.cons ok_ref15_Kind (ConsOK.nil)) L_ref15_Group Ls_ref15_Group (B := B_ref15_Group) (BodiesOK.nil) Try.func19 rfl fun x y hf h => (run_ref15_Group x).trans (eq_ref15_Group x y hf h)
noncomputable def L_wire_between : List (Nat × LD) := []
noncomputable def Ls_wire_between : List (Nat × List (Nat × LD)) := []
noncomputable def B_wire_between : Bodies := []
theorem run_wire_between (x : denL [.i, .i, .i]) : run [] L_wire_between Ls_wire_between B_wire_between Try.f51 [.i, .i, .i] [.bool] x = g_wire_between x := by kernel_rfl
theorem ok_wire_between : ConOK Try.prog 51 c_wire_between := con_ok (ConsOK.nil) L_wire_between Ls_wire_between (B := B_wire_between) (BodiesOK.nil) Try.func51 rfl fun x y hf h => (run_wire_between x).trans (eq_wire_between x y hf h)
noncomputable def L_wire_epoch : List (Nat × LD) := []
noncomputable def Ls_wire_epoch : List (Nat × List (Nat × LD)) := []
noncomputable def B_wire_epoch : Bodies := []
theorem run_wire_epoch (x : denL [.i]) : run [(51, c_wire_between)] L_wire_epoch Ls_wire_epoch B_wire_epoch Try.f52 [.i] [.bool] x = g_wire_epoch x := by kernel_rfl
theorem ok_wire_epoch : ConOK Try.prog 52 c_wire_epoch := con_ok (ConsOK.cons ok_wire_between (ConsOK.nil)) L_wire_epoch Ls_wire_epoch (B := B_wire_epoch) (BodiesOK.nil) Try.func52 rfl fun x y hf h => (run_wire_epoch x).trans (eq_wire_epoch x y hf h)
noncomputable def L_wire_seat : List (Nat × LD) := []
noncomputable def Ls_wire_seat : List (Nat × List (Nat × LD)) := []
noncomputable def B_wire_seat : Bodies := []
theorem run_wire_seat (x : denL [(.st .seat)]) : run [(51, c_wire_between)] L_wire_seat Ls_wire_seat B_wire_seat Try.f54 [(.st .seat)] [.bool] x = g_wire_seat x := by kernel_rfl
theorem ok_wire_seat : ConOK Try.prog 54 c_wire_seat := con_ok (ConsOK.cons ok_wire_between (ConsOK.nil)) L_wire_seat Ls_wire_seat (B := B_wire_seat) (BodiesOK.nil) Try.func54 rfl fun x y hf h => (run_wire_seat x).trans (eq_wire_seat x y hf h)
noncomputable def L_wire_box : List (Nat × LD) := []
noncomputable def Ls_wire_box : List (Nat × List (Nat × LD)) := []
noncomputable def B_wire_box : Bodies := []
theorem run_wire_box (x : denL [(.st .box)]) : run [(35, c_key_Good)] L_wire_box Ls_wire_box B_wire_box Try.f58 [(.st .box)] [.bool] x = g_wire_box x := by kernel_rfl
theorem ok_wire_box : ConOK Try.prog 58 c_wire_box := con_ok (ConsOK.cons ok_key_Good (ConsOK.nil)) L_wire_box Ls_wire_box (B := B_wire_box) (BodiesOK.nil) Try.func58 rfl fun x y hf h => (run_wire_box x).trans (eq_wire_box x y hf h)
noncomputable def L_wire_item : List (Nat × LD) := []
noncomputable def Ls_wire_item : List (Nat × List (Nat × LD)) := []
noncomputable def B_wire_item : Bodies := []
theorem run_wire_item (x : denL [(.st .item)]) : run [(51, c_wire_between), (74, c_shape_Below), (58, c_wire_box)] L_wire_item Ls_wire_item B_wire_item Try.f56 [(.st .item)] [.bool] x = g_wire_item x := by kernel_rfl
theorem ok_wire_item : ConOK Try.prog 56 c_wire_item := con_ok (ConsOK.cons ok_wire_between (ConsOK.cons ok_shape_Below (ConsOK.cons ok_wire_box (ConsOK.nil)))) L_wire_item Ls_wire_item (B := B_wire_item) (BodiesOK.nil) Try.func56 rfl fun x y hf h => (run_wire_item x).trans (eq_wire_item x y hf h)
noncomputable def L_wire_empty : List (Nat × LD) := []
noncomputable def Ls_wire_empty : List (Nat × List (Nat × LD)) := []
noncomputable def B_wire_empty : Bodies := []
theorem run_wire_empty (x : denL [(.st .rekey)]) : run [] L_wire_empty Ls_wire_empty B_wire_empty Try.f50 [(.st .rekey)] [.bool] x = g_wire_empty x := by kernel_rfl
theorem ok_wire_empty : ConOK Try.prog 50 c_wire_empty := con_ok (ConsOK.nil) L_wire_empty Ls_wire_empty (B := B_wire_empty) (BodiesOK.nil) Try.func50 rfl fun x y hf h => (run_wire_empty x).trans (eq_wire_empty x y hf h)
noncomputable def L_wire_Good : List (Nat × LD) := [(5, ⟨⟨[(1, .ptr 0 []), (29, .hole (.arr 4 .bool)), (30, .hole .i)], [(0, (.st .message), .hole (.st .message))], []⟩, [(.ret, ⟨[(2, .hole .bool)], [], []⟩), (.exit 0, ⟨[(1, .ptr 0 [])], [(0, (.st .message), .hole (.st .message))], []⟩)], 10⟩)]
noncomputable def Ls_wire_Good : List (Nat × List (Nat × LD)) := [(53, [(2, ⟨⟨[(0, .hole (.list (.st .seat))), (1, .hole .i), (2, .fn 54 []), (9, .hole (.list (.st .seat))), (10, .hole .i), (11, .hole .i)], [(0, (.st .message), .hole (.st .message)), (12, (.st .rekey), .hole (.st .rekey))], []⟩, [(.ret, ⟨[(6, .hole .bool)], [(0, (.st .message), .hole (.st .message)), (12, (.st .rekey), .hole (.st .rekey))], []⟩), (.exit 0, ⟨[(0, .hole (.list (.st .seat))), (1, .hole .i)], [(0, (.st .message), .hole (.st .message)), (12, (.st .rekey), .hole (.st .rekey))], []⟩)], 11⟩)]), (55, [(2, ⟨⟨[(0, .hole (.list (.st .item))), (1, .hole .i), (2, .fn 56 []), (9, .hole (.list (.st .item))), (10, .hole .i), (11, .hole .i)], [(0, (.st .message), .hole (.st .message)), (12, (.st .rekey), .hole (.st .rekey))], []⟩, [(.ret, ⟨[(6, .hole .bool)], [(0, (.st .message), .hole (.st .message)), (12, (.st .rekey), .hole (.st .rekey))], []⟩), (.exit 0, ⟨[(0, .hole (.list (.st .item))), (1, .hole .i)], [(0, (.st .message), .hole (.st .message)), (12, (.st .rekey), .hole (.st .rekey))], []⟩)], 11⟩)]), (57, [(2, ⟨⟨[(0, .asl 12 [.fld 3]), (1, .hole .i), (2, .fn 58 []), (9, .asl 12 [.fld 3]), (10, .hole .i), (11, .hole .i)], [(0, (.st .message), .hole (.st .message)), (12, (.st .reply), .hole (.st .reply))], []⟩, [(.ret, ⟨[(6, .hole .bool)], [(0, (.st .message), .hole (.st .message)), (12, (.st .reply), .hole (.st .reply))], []⟩), (.exit 0, ⟨[(0, .asl 12 [.fld 3]), (1, .hole .i)], [(0, (.st .message), .hole (.st .message)), (12, (.st .reply), .hole (.st .reply))], []⟩)], 11⟩)])]
noncomputable def B_wire_Good : Bodies := [bodyLine 53 Try.f53, bodyLine 55 Try.f55, bodyLine 57 Try.f57]
theorem run_wire_Good (x : denL [(.st .message)]) : run [(50, c_wire_empty), (51, c_wire_between), (52, c_wire_epoch), (54, c_wire_seat), (56, c_wire_item), (58, c_wire_box), (35, c_key_Good)] L_wire_Good Ls_wire_Good B_wire_Good Try.f28 [(.st .message)] [.bool] x = g_wire_Good x := by kernel_rfl
theorem ok_wire_Good : ConOK Try.prog 28 c_wire_Good := con_ok (ConsOK.cons ok_wire_empty (ConsOK.cons ok_wire_between (ConsOK.cons ok_wire_epoch (ConsOK.cons ok_wire_seat (ConsOK.cons ok_wire_item (ConsOK.cons ok_wire_box (ConsOK.cons ok_key_Good (ConsOK.nil)))))))) L_wire_Good Ls_wire_Good (B := B_wire_Good) (BodiesOK.cons Try.func53 rfl (BodiesOK.cons Try.func55 rfl (BodiesOK.cons Try.func57 rfl (BodiesOK.nil)))) Try.func28 rfl fun x y hf h => (run_wire_Good x).trans (eq_wire_Good x y hf h)
noncomputable def L_key_Ahead : List (Nat × LD) := []
noncomputable def Ls_key_Ahead : List (Nat × List (Nat × LD)) := []
noncomputable def B_key_Ahead : Bodies := []
theorem run_key_Ahead (x : denL [(.st .key), .i]) : run [(35, c_key_Good)] L_key_Ahead Ls_key_Ahead B_key_Ahead Try.f81 [(.st .key), .i] [(.st .key), .i] x = g_key_Ahead x := by kernel_rfl
theorem ok_key_Ahead : ConOK Try.prog 81 c_key_Ahead := con_ok (ConsOK.cons ok_key_Good (ConsOK.nil)) L_key_Ahead Ls_key_Ahead (B := B_key_Ahead) (BodiesOK.nil) Try.func81 rfl fun x y hf h => (run_key_Ahead x).trans (eq_key_Ahead x y hf h)
noncomputable def L_key_Gives : List (Nat × LD) := []
noncomputable def Ls_key_Gives : List (Nat × List (Nat × LD)) := []
noncomputable def B_key_Gives : Bodies := []
theorem run_key_Gives (x : denL [(.st .key), (.st .key)]) : run [(35, c_key_Good)] L_key_Gives Ls_key_Gives B_key_Gives Try.f95 [(.st .key), (.st .key)] [.bool] x = g_key_Gives x := by kernel_rfl
theorem ok_key_Gives : ConOK Try.prog 95 c_key_Gives := con_ok (ConsOK.cons ok_key_Good (ConsOK.nil)) L_key_Gives Ls_key_Gives (B := B_key_Gives) (BodiesOK.nil) Try.func95 rfl fun x y hf h => (run_key_Gives x).trans (eq_key_Gives x y hf h)
noncomputable def L_key_Open : List (Nat × LD) := []
noncomputable def Ls_key_Open : List (Nat × List (Nat × LD)) := []
noncomputable def B_key_Open : Bodies := []
theorem run_key_Open (x : denL [(.st .box), (.st .key)]) : run [(35, c_key_Good), (95, c_key_Gives)] L_key_Open Ls_key_Open B_key_Open Try.f89 [(.st .box), (.st .key)] [(.st .key), .i] x = g_key_Open x := by kernel_rfl
theorem ok_key_Open : ConOK Try.prog 89 c_key_Open := con_ok (ConsOK.cons ok_key_Good (ConsOK.cons ok_key_Gives (ConsOK.nil))) L_key_Open Ls_key_Open (B := B_key_Open) (BodiesOK.nil) Try.func89 rfl fun x y hf h => (run_key_Open x).trans (eq_key_Open x y hf h)
noncomputable def L_plan_Replaced : List (Nat × LD) := [(3, ⟨⟨[(3, .hole (.int .u64)), (6, .hole (.list (.st .seat))), (7, .hole .i), (8, .hole .i)], [], []⟩, [(.exit 0, ⟨[(3, .hole (.int .u64))], [], []⟩)], 11⟩)]
noncomputable def Ls_plan_Replaced : List (Nat × List (Nat × LD)) := []
noncomputable def B_plan_Replaced : Bodies := []
theorem run_plan_Replaced (x : denL [(.list (.st .seat))]) : run [(77, c_shape_Leaf), (86, c_shape_Mask), (90, c_shape_Above)] L_plan_Replaced Ls_plan_Replaced B_plan_Replaced Try.f80 [(.list (.st .seat))] [(.int .u32)] x = g_plan_Replaced x := by kernel_rfl
theorem ok_plan_Replaced : ConOK Try.prog 80 c_plan_Replaced := con_ok (ConsOK.cons ok_shape_Leaf (ConsOK.cons ok_shape_Mask (ConsOK.cons ok_shape_Above (ConsOK.nil)))) L_plan_Replaced Ls_plan_Replaced (B := B_plan_Replaced) (BodiesOK.nil) Try.func80 rfl fun x y hf h => (run_plan_Replaced x).trans (eq_plan_Replaced x y hf h)
noncomputable def L_member_Restart : List (Nat × LD) := []
noncomputable def Ls_member_Restart : List (Nat × List (Nat × LD)) := []
noncomputable def B_member_Restart : Bodies := []
theorem run_member_Restart (x : denL [(.st .member)]) : run [] L_member_Restart Ls_member_Restart B_member_Restart Try.f21 [(.st .member)] [(.st .member)] x = g_member_Restart x := by kernel_rfl
theorem ok_member_Restart : ConOK Try.prog 21 c_member_Restart := con_ok (ConsOK.nil) L_member_Restart Ls_member_Restart (B := B_member_Restart) (BodiesOK.nil) Try.func21 rfl fun x y hf h => (run_member_Restart x).trans (eq_member_Restart x y hf h)
noncomputable def L_member_Seated : List (Nat × LD) := []
noncomputable def Ls_member_Seated : List (Nat × List (Nat × LD)) := []
noncomputable def B_member_Seated : Bodies := []
theorem run_member_Seated (x : denL [(.st .card)]) : run [(31, c_member_card)] L_member_Seated Ls_member_Seated B_member_Seated Try.f15 [(.st .card)] [(.st .member), .i] x = g_member_Seated x := by kernel_rfl
theorem ok_member_Seated : ConOK Try.prog 15 c_member_Seated := con_ok (ConsOK.cons ok_member_card (ConsOK.nil)) L_member_Seated Ls_member_Seated (B := B_member_Seated) (BodiesOK.nil) Try.func15 rfl fun x y hf h => (run_member_Seated x).trans (eq_member_Seated x y hf h)
noncomputable def L_ref15_Seated : List (Nat × LD) := []
noncomputable def Ls_ref15_Seated : List (Nat × List (Nat × LD)) := []
noncomputable def B_ref15_Seated : Bodies := []
theorem run_ref15_Seated (x : denL [(.st .card)]) : run [(36, c_ref15_GoodCard)] L_ref15_Seated Ls_ref15_Seated B_ref15_Seated Try.f20 [(.st .card)] [(.st .member), .i] x = g_ref15_Seated x := by kernel_rfl
theorem ok_ref15_Seated : ConOK Try.prog 20 c_ref15_Seated := con_ok (ConsOK.cons ok_ref15_GoodCard (ConsOK.nil)) L_ref15_Seated Ls_ref15_Seated (B := B_ref15_Seated) (BodiesOK.nil) Try.func20 rfl fun x y hf h => (run_ref15_Seated x).trans (eq_ref15_Seated x y hf h)
noncomputable def L_member_find : List (Nat × LD) := []
noncomputable def Ls_member_find : List (Nat × List (Nat × LD)) := [(93, [(2, ⟨⟨[(0, .hole (.list (.st .item))), (1, .fn 94 [1, 2]), (7, .hole .i), (8, .hole .i)], [(0, (.st .rekey), .hole (.st .rekey)), (1, .i, .hole .i), (2, .i, .hole .i), (3, (.st .box), .hole (.st .box))], []⟩, [(.ret, ⟨[(4, .hole .i)], [(0, (.st .rekey), .hole (.st .rekey)), (1, .i, .hole .i), (2, .i, .hole .i), (3, (.st .box), .hole (.st .box))], []⟩), (.exit 0, ⟨[], [(0, (.st .rekey), .hole (.st .rekey)), (1, .i, .hole .i), (2, .i, .hole .i), (3, (.st .box), .hole (.st .box))], []⟩)], 10⟩)])]
noncomputable def B_member_find : Bodies := [bodyLine 94 Try.f94, bodyLine 93 Try.f93]
theorem run_member_find (x : denL [(.st .rekey), .i, .i]) : run [] L_member_find Ls_member_find B_member_find Try.f88 [(.st .rekey), .i, .i] [(.st .box), .bool] x = g_member_find x := by kernel_rfl
theorem ok_member_find : ConOK Try.prog 88 c_member_find := con_ok (ConsOK.nil) L_member_find Ls_member_find (B := B_member_find) (BodiesOK.cons Try.func94 rfl (BodiesOK.cons Try.func93 rfl (BodiesOK.nil))) Try.func88 rfl fun x y hf h => (run_member_find x).trans (eq_member_find x y hf h)
noncomputable def L_member_open : List (Nat × LD) := []
noncomputable def Ls_member_open : List (Nat × List (Nat × LD)) := []
noncomputable def B_member_open : Bodies := []
theorem run_member_open (x : denL [(.st .rekey), .i, .i, (.st .key)]) : run [(88, c_member_find), (89, c_key_Open)] L_member_open Ls_member_open B_member_open Try.f78 [(.st .rekey), .i, .i, (.st .key)] [(.st .key), .i] x = g_member_open x := by kernel_rfl
theorem ok_member_open : ConOK Try.prog 78 c_member_open := con_ok (ConsOK.cons ok_member_find (ConsOK.cons ok_key_Open (ConsOK.nil))) L_member_open Ls_member_open (B := B_member_open) (BodiesOK.nil) Try.func78 rfl fun x y hf h => (run_member_open x).trans (eq_member_open x y hf h)
noncomputable def L_member_enter : List (Nat × LD) := [(5, ⟨⟨[(2, .ptr 0 []), (3, .ptr 1 []), (4, .ptr 2 []), (8, .hole .i), (9, .hole .i), (10, .ptr 4 []), (27, .hole (.arr 3 .i)), (28, .hole .i)], [(0, (.st .member), .hole (.st .member)), (1, (.st .rekey), .hole (.st .rekey)), (2, (.st .member), .hole (.st .member)), (4, (.st .key), .hole (.st .key))], []⟩, [(.ret, ⟨[(4, .ptr 2 []), (5, .hole .i)], [(2, (.st .member), .hole (.st .member))], []⟩), (.exit 0, ⟨[(2, .ptr 0 []), (4, .ptr 2 [])], [(0, (.st .member), .hole (.st .member)), (2, (.st .member), .hole (.st .member))], []⟩)], 11⟩)]
noncomputable def Ls_member_enter : List (Nat × List (Nat × LD)) := []
noncomputable def B_member_enter : Bodies := []
theorem run_member_enter (x : denL [(.st .member), (.st .rekey)]) : run [(76, c_shape_Path), (77, c_shape_Leaf), (78, c_member_open)] L_member_enter Ls_member_enter B_member_enter Try.f60 [(.st .member), (.st .rekey)] [(.st .member), .i] x = g_member_enter x := by kernel_rfl
theorem ok_member_enter : ConOK Try.prog 60 c_member_enter := con_ok (ConsOK.cons ok_shape_Path (ConsOK.cons ok_shape_Leaf (ConsOK.cons ok_member_open (ConsOK.nil)))) L_member_enter Ls_member_enter (B := B_member_enter) (BodiesOK.nil) Try.func60 rfl fun x y hf h => (run_member_enter x).trans (eq_member_enter x y hf h)
noncomputable def L_member_follow : List (Nat × LD) := [(9, ⟨⟨[(2, .ptr 0 []), (3, .ptr 1 []), (4, .ptr 2 []), (8, .hole (.int .u32)), (9, .ptr 4 []), (11, .hole .i), (41, .hole (.arr 3 .i)), (42, .hole .i)], [(0, (.st .member), .hole (.st .member)), (1, (.st .rekey), .hole (.st .rekey)), (2, (.st .member), .hole (.st .member)), (4, (.st .key), .hole (.st .key))], []⟩, [(.ret, ⟨[(4, .ptr 2 []), (5, .hole .i)], [(2, (.st .member), .hole (.st .member))], []⟩), (.exit 0, ⟨[(2, .ptr 0 []), (4, .ptr 2 [])], [(0, (.st .member), .hole (.st .member)), (2, (.st .member), .hole (.st .member))], []⟩)], 10⟩)]
noncomputable def Ls_member_follow : List (Nat × List (Nat × LD)) := []
noncomputable def B_member_follow : Bodies := []
theorem run_member_follow (x : denL [(.st .member), (.st .rekey)]) : run [(76, c_shape_Path), (80, c_plan_Replaced), (81, c_key_Ahead), (77, c_shape_Leaf), (78, c_member_open)] L_member_follow Ls_member_follow B_member_follow Try.f63 [(.st .member), (.st .rekey)] [(.st .member), .i] x = g_member_follow x := by kernel_rfl
theorem ok_member_follow : ConOK Try.prog 63 c_member_follow := con_ok (ConsOK.cons ok_shape_Path (ConsOK.cons ok_plan_Replaced (ConsOK.cons ok_key_Ahead (ConsOK.cons ok_shape_Leaf (ConsOK.cons ok_member_open (ConsOK.nil)))))) L_member_follow Ls_member_follow (B := B_member_follow) (BodiesOK.nil) Try.func63 rfl fun x y hf h => (run_member_follow x).trans (eq_member_follow x y hf h)
noncomputable def L_member_next : List (Nat × LD) := []
noncomputable def Ls_member_next : List (Nat × List (Nat × LD)) := [(75, [(2, ⟨⟨[(0, .hole (.list (.st .seat))), (3, .ptr 4 []), (7, .hole .i), (8, .hole .i)], [(0, (.st .member), .hole (.st .member)), (1, (.st .rekey), .hole (.st .rekey)), (2, (.st .member), .hole (.st .member)), (3, (.st .seat), .hole (.st .seat)), (4, (.st .seat), .hole (.st .seat))], []⟩, [(.ret, ⟨[(4, .hole .i)], [(0, (.st .member), .hole (.st .member)), (1, (.st .rekey), .hole (.st .rekey)), (2, (.st .member), .hole (.st .member)), (3, (.st .seat), .hole (.st .seat))], []⟩), (.exit 0, ⟨[], [(0, (.st .member), .hole (.st .member)), (1, (.st .rekey), .hole (.st .rekey)), (2, (.st .member), .hole (.st .member)), (3, (.st .seat), .hole (.st .seat))], []⟩)], 10⟩)]), (79, [(2, ⟨⟨[(0, .hole (.list (.st .seat))), (1, .fn 62 [0]), (7, .hole .i), (8, .hole .i)], [(0, (.st .member), .hole (.st .member)), (1, (.st .rekey), .hole (.st .rekey)), (2, (.st .member), .hole (.st .member))], []⟩, [(.ret, ⟨[(4, .hole .i)], [(0, (.st .member), .hole (.st .member)), (1, (.st .rekey), .hole (.st .rekey)), (2, (.st .member), .hole (.st .member))], []⟩), (.exit 0, ⟨[], [(0, (.st .member), .hole (.st .member)), (1, (.st .rekey), .hole (.st .rekey)), (2, (.st .member), .hole (.st .member))], []⟩)], 10⟩), (2, ⟨⟨[(0, .hole (.list (.st .seat))), (1, .fn 62 [0]), (7, .hole .i), (8, .hole .i)], [(0, (.st .member), .hole (.st .member)), (1, (.st .rekey), .hole (.st .rekey)), (2, (.st .member), .hole (.st .member)), (3, (.st .seat), .hole (.st .seat))], []⟩, [(.ret, ⟨[(4, .hole .i)], [(0, (.st .member), .hole (.st .member)), (1, (.st .rekey), .hole (.st .rekey)), (2, (.st .member), .hole (.st .member)), (3, (.st .seat), .hole (.st .seat))], []⟩), (.exit 0, ⟨[], [(0, (.st .member), .hole (.st .member)), (1, (.st .rekey), .hole (.st .rekey)), (2, (.st .member), .hole (.st .member)), (3, (.st .seat), .hole (.st .seat))], []⟩)], 10⟩)])]
noncomputable def B_member_next : Bodies := [bodyLine 59 Try.f59, bodyLine 75 Try.f75, bodyLine 62 Try.f62, bodyLine 61 Try.f61, bodyLine 79 Try.f79]
theorem run_member_next (x : denL [(.st .member), (.st .rekey)]) : run [(60, c_member_enter), (63, c_member_follow)] L_member_next Ls_member_next B_member_next Try.f29 [(.st .member), (.st .rekey)] [(.st .member), .i] x = g_member_next x := by kernel_rfl
theorem ok_member_next : ConOK Try.prog 29 c_member_next := con_ok (ConsOK.cons ok_member_enter (ConsOK.cons ok_member_follow (ConsOK.nil))) L_member_next Ls_member_next (B := B_member_next) (BodiesOK.cons Try.func59 rfl (BodiesOK.cons Try.func75 rfl (BodiesOK.cons Try.func62 rfl (BodiesOK.cons Try.func61 rfl (BodiesOK.cons Try.func79 rfl (BodiesOK.nil)))))) Try.func29 rfl fun x y hf h => (run_member_next x).trans (eq_member_next x y hf h)
noncomputable def L_member_Apply : List (Nat × LD) := []
noncomputable def Ls_member_Apply : List (Nat × List (Nat × LD)) := []
noncomputable def B_member_Apply : Bodies := []
theorem run_member_Apply (x : denL [(.st .member), (.st .rekey)]) : run [(16, c_member_Kind), (28, c_wire_Good), (29, c_member_next)] L_member_Apply Ls_member_Apply B_member_Apply Try.f11 [(.st .member), (.st .rekey)] [(.st .member), .i] x = g_member_Apply x := by kernel_rfl
theorem ok_member_Apply : ConOK Try.prog 11 c_member_Apply := con_ok (ConsOK.cons ok_member_Kind (ConsOK.cons ok_wire_Good (ConsOK.cons ok_member_next (ConsOK.nil)))) L_member_Apply Ls_member_Apply (B := B_member_Apply) (BodiesOK.nil) Try.func11 rfl fun x y hf h => (run_member_Apply x).trans (eq_member_Apply x y hf h)
noncomputable def L_law15_three : List (Nat × LD) := []
noncomputable def Ls_law15_three : List (Nat × List (Nat × LD)) := []
noncomputable def B_law15_three : Bodies := []
theorem run_law15_three (x : denL []) : run [(37, c_ref11_Start), (9, c_ref12_Next)] L_law15_three Ls_law15_three B_law15_three Try.f22 [] [(.st .tree)] x = g_law15_three x := by kernel_rfl
theorem ok_law15_three : ConOK Try.prog 22 c_law15_three := con_ok (ConsOK.cons ok_ref11_Start (ConsOK.cons ok_ref12_Next (ConsOK.nil))) L_law15_three Ls_law15_three (B := B_law15_three) (BodiesOK.nil) Try.func22 rfl fun x y hf h => (run_law15_three x).trans (eq_law15_three x y hf h)
noncomputable def L_law15_lives : List (Nat × LD) := []
noncomputable def Ls_law15_lives : List (Nat × List (Nat × LD)) := []
noncomputable def B_law15_lives : Bodies := []
theorem run_law15_lives (x : denL []) : run [(22, c_law15_three), (10, c_ref11_Stand), (9, c_ref12_Next), (11, c_member_Apply), (16, c_member_Kind)] L_law15_lives Ls_law15_lives B_law15_lives Try.f8 [] [.bool] x = g_law15_lives x := by kernel_rfl
theorem ok_law15_lives : ConOK Try.prog 8 c_law15_lives := con_ok (ConsOK.cons ok_law15_three (ConsOK.cons ok_ref11_Stand (ConsOK.cons ok_ref12_Next (ConsOK.cons ok_member_Apply (ConsOK.cons ok_member_Kind (ConsOK.nil)))))) L_law15_lives Ls_law15_lives (B := B_law15_lives) (BodiesOK.nil) Try.func8 rfl fun x y hf h => (run_law15_lives x).trans (eq_law15_lives x y hf h)
noncomputable def L_law15_MemberKinds : List (Nat × LD) := []
noncomputable def Ls_law15_MemberKinds : List (Nat × List (Nat × LD)) := []
noncomputable def B_law15_MemberKinds : Bodies := []
theorem run_law15_MemberKinds (x : denL [(.st .member), (.st .card)]) : run [(8, c_law15_lives), (16, c_member_Kind), (17, c_ref15_Kind), (18, c_member_Group), (19, c_ref15_Group), (15, c_member_Seated), (20, c_ref15_Seated), (21, c_member_Restart)] L_law15_MemberKinds Ls_law15_MemberKinds B_law15_MemberKinds Try.f7 [(.st .member), (.st .card)] [.bool] x = g_law15_MemberKinds x := by kernel_rfl
theorem ok_law15_MemberKinds : ConOK Try.prog 7 c_law15_MemberKinds := con_ok (ConsOK.cons ok_law15_lives (ConsOK.cons ok_member_Kind (ConsOK.cons ok_ref15_Kind (ConsOK.cons ok_member_Group (ConsOK.cons ok_ref15_Group (ConsOK.cons ok_member_Seated (ConsOK.cons ok_ref15_Seated (ConsOK.cons ok_member_Restart (ConsOK.nil))))))))) L_law15_MemberKinds Ls_law15_MemberKinds (B := B_law15_MemberKinds) (BodiesOK.nil) Try.func7 rfl fun x y hf h => (run_law15_MemberKinds x).trans (eq_law15_MemberKinds x y hf h)
noncomputable def L_law15_MemberKeeps : List (Nat × LD) := []
noncomputable def Ls_law15_MemberKeeps : List (Nat × List (Nat × LD)) := []
noncomputable def B_law15_MemberKeeps : Bodies := []
theorem run_law15_MemberKeeps (x : denL [(.st .member), (.st .rekey)]) : run [(8, c_law15_lives), (11, c_member_Apply)] L_law15_MemberKeeps Ls_law15_MemberKeeps B_law15_MemberKeeps Try.f4 [(.st .member), (.st .rekey)] [.bool] x = g_law15_MemberKeeps x := by kernel_rfl
theorem ok_law15_MemberKeeps : ConOK Try.prog 4 c_law15_MemberKeeps := con_ok (ConsOK.cons ok_law15_lives (ConsOK.cons ok_member_Apply (ConsOK.nil))) L_law15_MemberKeeps Ls_law15_MemberKeeps (B := B_law15_MemberKeeps) (BodiesOK.nil) Try.func4 rfl fun x y hf h => (run_law15_MemberKeeps x).trans (eq_law15_MemberKeeps x y hf h)
noncomputable def L_law15_MemberOneWay : List (Nat × LD) := []
noncomputable def Ls_law15_MemberOneWay : List (Nat × List (Nat × LD)) := []
noncomputable def B_law15_MemberOneWay : Bodies := []
theorem run_law15_MemberOneWay (x : denL [(.st .member), (.st .rekey)]) : run [(8, c_law15_lives), (11, c_member_Apply), (13, c_ref02_Gives)] L_law15_MemberOneWay Ls_law15_MemberOneWay B_law15_MemberOneWay Try.f5 [(.st .member), (.st .rekey)] [.bool] x = g_law15_MemberOneWay x := by kernel_rfl
theorem ok_law15_MemberOneWay : ConOK Try.prog 5 c_law15_MemberOneWay := con_ok (ConsOK.cons ok_law15_lives (ConsOK.cons ok_member_Apply (ConsOK.cons ok_ref02_Gives (ConsOK.nil)))) L_law15_MemberOneWay Ls_law15_MemberOneWay (B := B_law15_MemberOneWay) (BodiesOK.nil) Try.func5 rfl fun x y hf h => (run_law15_MemberOneWay x).trans (eq_law15_MemberOneWay x y hf h)
noncomputable def L_law15_MemberInStep : List (Nat × LD) := [(7, ⟨⟨[(2, .ptr 0 []), (5, .ptr 2 []), (6, .ptr 3 []), (39, .hole (.list (.st .seat))), (40, .hole .i), (41, .hole .i)], [(0, (.st .tree), .hole (.st .tree)), (2, (.st .tree), .hole (.st .tree)), (3, (.st .rekey), .hole (.st .rekey))], []⟩, [(.ret, ⟨[(4, .hole .bool)], [], []⟩), (.exit 0, ⟨[(2, .ptr 0 []), (5, .ptr 2 []), (6, .ptr 3 [])], [(0, (.st .tree), .hole (.st .tree)), (2, (.st .tree), .hole (.st .tree)), (3, (.st .rekey), .hole (.st .rekey))], []⟩)], 14⟩), (16, ⟨⟨[(2, .ptr 0 []), (5, .ptr 2 []), (6, .ptr 3 []), (16, .hole .i)], [(0, (.st .tree), .hole (.st .tree)), (2, (.st .tree), .hole (.st .tree)), (3, (.st .rekey), .hole (.st .rekey))], []⟩, [(.ret, ⟨[(4, .hole .bool)], [], []⟩), (.exit 2, ⟨[], [], []⟩)], 16⟩)]
noncomputable def Ls_law15_MemberInStep : List (Nat × List (Nat × LD)) := []
noncomputable def B_law15_MemberInStep : Bodies := []
theorem run_law15_MemberInStep (x : denL [(.st .tree), (.st .batch)]) : run [(8, c_law15_lives), (9, c_ref12_Next), (10, c_ref11_Stand), (11, c_member_Apply), (14, c_ref11_Card), (15, c_member_Seated)] L_law15_MemberInStep Ls_law15_MemberInStep B_law15_MemberInStep Try.f6 [(.st .tree), (.st .batch)] [.bool] x = g_law15_MemberInStep x := by kernel_rfl
theorem ok_law15_MemberInStep : ConOK Try.prog 6 c_law15_MemberInStep := con_ok (ConsOK.cons ok_law15_lives (ConsOK.cons ok_ref12_Next (ConsOK.cons ok_ref11_Stand (ConsOK.cons ok_member_Apply (ConsOK.cons ok_ref11_Card (ConsOK.cons ok_member_Seated (ConsOK.nil))))))) L_law15_MemberInStep Ls_law15_MemberInStep (B := B_law15_MemberInStep) (BodiesOK.nil) Try.func6 rfl fun x y hf h => (run_law15_MemberInStep x).trans (eq_law15_MemberInStep x y hf h)
noncomputable def L_law15_MemberRuns : List (Nat × LD) := [(6, ⟨⟨[(2, .hole (.list .i)), (3, .ptr 0 []), (7, .row (.st .tree)), (8, .row (.st .rekey)), (29, .hole (.list (.st .batch))), (30, .hole .i), (31, .hole .i)], [(0, (.st .tree), .hole (.st .tree))], []⟩, [(.exit 0, ⟨[(2, .hole (.list .i)), (3, .ptr 0 []), (7, .row (.st .tree)), (8, .row (.st .rekey))], [(0, (.st .tree), .hole (.st .tree))], []⟩)], 19⟩), (24, ⟨⟨[(2, .hole (.list .i)), (3, .ptr 0 []), (7, .row (.st .tree)), (8, .row (.st .rekey)), (14, .hole .i), (15, .ptr 23 []), (17, .hole .i), (83, .hole (.list .i)), (84, .hole .i), (85, .hole .i)], [(0, (.st .tree), .hole (.st .tree)), (23, (.st .member), .hole (.st .member))], []⟩, [(.exit 4, ⟨[(2, .hole (.list .i)), (3, .ptr 0 []), (7, .row (.st .tree)), (8, .row (.st .rekey)), (14, .hole .i), (15, .ptr 23 []), (17, .hole .i)], [(0, (.st .tree), .hole (.st .tree)), (23, (.st .member), .hole (.st .member))], []⟩), (.ret, ⟨[(6, .hole .bool)], [], []⟩)], 14⟩), (16, ⟨⟨[(2, .hole (.list .i)), (3, .ptr 0 []), (7, .row (.st .tree)), (8, .row (.st .rekey)), (14, .hole .i)], [(0, (.st .tree), .hole (.st .tree))], []⟩, [(.ret, ⟨[(6, .hole .bool)], [], []⟩), (.exit 2, ⟨[], [], []⟩)], 27⟩)]
noncomputable def Ls_law15_MemberRuns : List (Nat × List (Nat × LD)) := []
noncomputable def B_law15_MemberRuns : Bodies := []
theorem run_law15_MemberRuns (x : denL [(.st .tree), (.list (.st .batch)), (.list .i)]) : run [(8, c_law15_lives), (9, c_ref12_Next), (10, c_ref11_Stand), (11, c_member_Apply), (12, c_ref09_Find)] L_law15_MemberRuns Ls_law15_MemberRuns B_law15_MemberRuns Try.f3 [(.st .tree), (.list (.st .batch)), (.list .i)] [.bool] x = g_law15_MemberRuns x := by kernel_rfl
theorem ok_law15_MemberRuns : ConOK Try.prog 3 c_law15_MemberRuns := con_ok (ConsOK.cons ok_law15_lives (ConsOK.cons ok_ref12_Next (ConsOK.cons ok_ref11_Stand (ConsOK.cons ok_member_Apply (ConsOK.cons ok_ref09_Find (ConsOK.nil)))))) L_law15_MemberRuns Ls_law15_MemberRuns (B := B_law15_MemberRuns) (BodiesOK.nil) Try.func3 rfl fun x y hf h => (run_law15_MemberRuns x).trans (eq_law15_MemberRuns x y hf h)
end Go.Proofs.Ytghmcodjbkmlnaa
