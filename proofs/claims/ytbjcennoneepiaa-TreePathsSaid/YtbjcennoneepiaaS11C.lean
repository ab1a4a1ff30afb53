/-
  The program computes so: printed by a program of my own (wip/tool).
  For the claims about coterie.
-/
import Derived.Test.YtbjcennoneepiaaS11A
import Derived.Test.YtbjcennoneepiaaN11R
namespace Go.Proofs.Ytbjcennoneepiaa
open Go Go.Co Go.Co.N Go.Proofs
noncomputable def L_key_Good : List (Nat × LD) := []
noncomputable def Ls_key_Good : List (Nat × List (Nat × LD)) := []
noncomputable def B_key_Good : Bodies := []
theorem run_key_Good (x : denL [(.st .key)]) : run [] L_key_Good Ls_key_Good B_key_Good Try.f44 [(.st .key)] [.bool] x = g_key_Good x := by kernel_rfl
theorem ok_key_Good : ConOK Try.prog 44 c_key_Good := con_ok (ConsOK.nil) L_key_Good Ls_key_Good (B := B_key_Good) (BodiesOK.nil) Try.func44 rfl fun x y hf h => (run_key_Good x).trans (eq_key_Good x y hf h)
noncomputable def L_ref02_Good : List (Nat × LD) := []
noncomputable def Ls_ref02_Good : List (Nat × List (Nat × LD)) := []
noncomputable def B_ref02_Good : Bodies := []
theorem run_ref02_Good (x : denL [(.st .key)]) : run [] L_ref02_Good Ls_ref02_Good B_ref02_Good Try.f46 [(.st .key)] [.bool] x = g_ref02_Good x := by kernel_rfl
theorem ok_ref02_Good : ConOK Try.prog 46 c_ref02_Good := con_ok (ConsOK.nil) L_ref02_Good Ls_ref02_Good (B := B_ref02_Good) (BodiesOK.nil) Try.func46 rfl fun x y hf h => (run_ref02_Good x).trans (eq_ref02_Good x y hf h)
noncomputable def L_key_Ahead : List (Nat × LD) := []
noncomputable def Ls_key_Ahead : List (Nat × List (Nat × LD)) := []
noncomputable def B_key_Ahead : Bodies := []
theorem run_key_Ahead (x : denL [(.st .key), .i]) : run [(44, c_key_Good)] L_key_Ahead Ls_key_Ahead B_key_Ahead Try.f48 [(.st .key), .i] [(.st .key), .i] x = g_key_Ahead x := by kernel_rfl
theorem ok_key_Ahead : ConOK Try.prog 48 c_key_Ahead := con_ok (ConsOK.cons ok_key_Good (ConsOK.nil)) L_key_Ahead Ls_key_Ahead (B := B_key_Ahead) (BodiesOK.nil) Try.func48 rfl fun x y hf h => (run_key_Ahead x).trans (eq_key_Ahead x y hf h)
noncomputable def L_ratchet_Check : List (Nat × LD) := [(3, ⟨⟨[(3, .mp 1), (7, .hole (.arr 21 (.st .key))), (8, .hole .i)], [], [(1, .i, .i)]⟩, [(.ret, ⟨[(2, .hole .i)], [], []⟩), (.exit 0, ⟨[], [], []⟩)], 11⟩)]
noncomputable def Ls_ratchet_Check : List (Nat × List (Nat × LD)) := []
noncomputable def B_ratchet_Check : Bodies := []
theorem run_ratchet_Check (x : denL [(.arr 21 (.st .key))]) : run [(44, c_key_Good)] L_ratchet_Check Ls_ratchet_Check B_ratchet_Check Try.f28 [(.arr 21 (.st .key))] [.i] x = g_ratchet_Check x := by kernel_rfl
theorem ok_ratchet_Check : ConOK Try.prog 28 c_ratchet_Check := con_ok (ConsOK.cons ok_key_Good (ConsOK.nil)) L_ratchet_Check Ls_ratchet_Check (B := B_ratchet_Check) (BodiesOK.nil) Try.func28 rfl fun x y hf h => (run_ratchet_Check x).trans (eq_ratchet_Check x y hf h)
noncomputable def L_ref10_Check : List (Nat × LD) := [(7, ⟨⟨[(1, .ptr 0 []), (3, .hole .i), (4, .hole .i)], [(0, (.arr 21 (.st .key)), .hole (.arr 21 (.st .key)))], []⟩, [(.ret, ⟨[(2, .hole .i)], [], []⟩), (.exit 2, ⟨[(1, .ptr 0 []), (3, .hole .i)], [(0, (.arr 21 (.st .key)), .hole (.arr 21 (.st .key)))], []⟩)], 10⟩), (2, ⟨⟨[(1, .ptr 0 []), (3, .hole .i)], [(0, (.arr 21 (.st .key)), .hole (.arr 21 (.st .key)))], []⟩, [(.ret, ⟨[(2, .hole .i)], [], []⟩), (.exit 0, ⟨[], [], []⟩)], 20⟩)]
noncomputable def Ls_ref10_Check : List (Nat × List (Nat × LD)) := []
noncomputable def B_ref10_Check : Bodies := []
theorem run_ref10_Check (x : denL [(.arr 21 (.st .key))]) : run [(46, c_ref02_Good)] L_ref10_Check Ls_ref10_Check B_ref10_Check Try.f30 [(.arr 21 (.st .key))] [.i] x = g_ref10_Check x := by kernel_rfl
theorem ok_ref10_Check : ConOK Try.prog 30 c_ref10_Check := con_ok (ConsOK.cons ok_ref02_Good (ConsOK.nil)) L_ref10_Check Ls_ref10_Check (B := B_ref10_Check) (BodiesOK.nil) Try.func30 rfl fun x y hf h => (run_ref10_Check x).trans (eq_ref10_Check x y hf h)
noncomputable def L_ratchet_LeafAt : List (Nat × LD) := []
noncomputable def Ls_ratchet_LeafAt : List (Nat × List (Nat × LD)) := []
noncomputable def B_ratchet_LeafAt : Bodies := []
theorem run_ratchet_LeafAt (x : denL [(.st .entry), .i]) : run [(48, c_key_Ahead)] L_ratchet_LeafAt Ls_ratchet_LeafAt B_ratchet_LeafAt Try.f33 [(.st .entry), .i] [(.st .key), .i] x = g_ratchet_LeafAt x := by kernel_rfl
theorem ok_ratchet_LeafAt : ConOK Try.prog 33 c_ratchet_LeafAt := con_ok (ConsOK.cons ok_key_Ahead (ConsOK.nil)) L_ratchet_LeafAt Ls_ratchet_LeafAt (B := B_ratchet_LeafAt) (BodiesOK.nil) Try.func33 rfl fun x y hf h => (run_ratchet_LeafAt x).trans (eq_ratchet_LeafAt x y hf h)
noncomputable def L_ref10_LeafAt : List (Nat × LD) := []
noncomputable def Ls_ref10_LeafAt : List (Nat × List (Nat × LD)) := []
noncomputable def B_ref10_LeafAt : Bodies := []
theorem run_ref10_LeafAt (x : denL [(.st .entry), .i]) : run [] L_ref10_LeafAt Ls_ref10_LeafAt B_ref10_LeafAt Try.f42 [(.st .entry), .i] [(.st .key), .i] x = g_ref10_LeafAt x := by kernel_rfl
theorem ok_ref10_LeafAt : ConOK Try.prog 42 c_ref10_LeafAt := con_ok (ConsOK.nil) L_ref10_LeafAt Ls_ref10_LeafAt (B := B_ref10_LeafAt) (BodiesOK.nil) Try.func42 rfl fun x y hf h => (run_ref10_LeafAt x).trans (eq_ref10_LeafAt x y hf h)
noncomputable def L_ref01_Node : List (Nat × LD) := []
noncomputable def Ls_ref01_Node : List (Nat × List (Nat × LD)) := []
noncomputable def B_ref01_Node : Bodies := []
theorem run_ref01_Node (x : denL [.i]) : run [] L_ref01_Node Ls_ref01_Node B_ref01_Node Try.f51 [.i] [.bool] x = g_ref01_Node x := by kernel_rfl
theorem ok_ref01_Node : ConOK Try.prog 51 c_ref01_Node := con_ok (ConsOK.nil) L_ref01_Node Ls_ref01_Node (B := B_ref01_Node) (BodiesOK.nil) Try.func51 rfl fun x y hf h => (run_ref01_Node x).trans (eq_ref01_Node x y hf h)
noncomputable def L_ref01_Child : List (Nat × LD) := []
noncomputable def Ls_ref01_Child : List (Nat × List (Nat × LD)) := []
noncomputable def B_ref01_Child : Bodies := []
theorem run_ref01_Child (x : denL [.i, .i]) : run [] L_ref01_Child Ls_ref01_Child B_ref01_Child Try.f14 [.i, .i] [.i] x = g_ref01_Child x := by kernel_rfl
theorem ok_ref01_Child : ConOK Try.prog 14 c_ref01_Child := con_ok (ConsOK.nil) L_ref01_Child Ls_ref01_Child (B := B_ref01_Child) (BodiesOK.nil) Try.func14 rfl fun x y hf h => (run_ref01_Child x).trans (eq_ref01_Child x y hf h)
noncomputable def L_ref01_Parent : List (Nat × LD) := [(7, ⟨⟨[(0, .hole .i), (3, .hole .i), (4, .hole .i)], [], []⟩, [(.ret, ⟨[(2, .hole .i)], [], []⟩), (.exit 2, ⟨[(0, .hole .i), (3, .hole .i)], [], []⟩)], 10⟩), (4, ⟨⟨[(0, .hole .i), (3, .hole .i)], [], []⟩, [(.ret, ⟨[(2, .hole .i)], [], []⟩), (.exit 0, ⟨[], [], []⟩)], 20⟩)]
noncomputable def Ls_ref01_Parent : List (Nat × List (Nat × LD)) := []
noncomputable def B_ref01_Parent : Bodies := []
theorem run_ref01_Parent (x : denL [.i]) : run [(14, c_ref01_Child)] L_ref01_Parent Ls_ref01_Parent B_ref01_Parent Try.f43 [.i] [.i] x = g_ref01_Parent x := by kernel_rfl
theorem ok_ref01_Parent : ConOK Try.prog 43 c_ref01_Parent := con_ok (ConsOK.cons ok_ref01_Child (ConsOK.nil)) L_ref01_Parent Ls_ref01_Parent (B := B_ref01_Parent) (BodiesOK.nil) Try.func43 rfl fun x y hf h => (run_ref01_Parent x).trans (eq_ref01_Parent x y hf h)
noncomputable def L_ref01_Leaf : List (Nat × LD) := []
noncomputable def Ls_ref01_Leaf : List (Nat × List (Nat × LD)) := []
noncomputable def B_ref01_Leaf : Bodies := []
theorem run_ref01_Leaf (x : denL [.i]) : run [] L_ref01_Leaf Ls_ref01_Leaf B_ref01_Leaf Try.f25 [.i] [.i] x = g_ref01_Leaf x := by kernel_rfl
theorem ok_ref01_Leaf : ConOK Try.prog 25 c_ref01_Leaf := con_ok (ConsOK.nil) L_ref01_Leaf Ls_ref01_Leaf (B := B_ref01_Leaf) (BodiesOK.nil) Try.func25 rfl fun x y hf h => (run_ref01_Leaf x).trans (eq_ref01_Leaf x y hf h)
noncomputable def L_ref01_Path : List (Nat × LD) := [(6, ⟨⟨[(2, .ptr 0 []), (4, .ptr 1 []), (5, .hole .i), (6, .hole .i)], [(0, (.arr 3 .i), .hole (.arr 3 .i)), (1, (.arr 3 .i), .hole (.arr 3 .i))], []⟩, [(.exit 0, ⟨[(2, .ptr 0 []), (4, .ptr 1 [])], [(0, (.arr 3 .i), .hole (.arr 3 .i)), (1, (.arr 3 .i), .hole (.arr 3 .i))], []⟩)], 10⟩)]
noncomputable def Ls_ref01_Path : List (Nat × List (Nat × LD)) := []
noncomputable def B_ref01_Path : Bodies := []
theorem run_ref01_Path (x : denL [.i]) : run [(25, c_ref01_Leaf), (43, c_ref01_Parent)] L_ref01_Path Ls_ref01_Path B_ref01_Path Try.f24 [.i] [(.arr 3 .i), .bool] x = g_ref01_Path x := by kernel_rfl
theorem ok_ref01_Path : ConOK Try.prog 24 c_ref01_Path := con_ok (ConsOK.cons ok_ref01_Leaf (ConsOK.cons ok_ref01_Parent (ConsOK.nil))) L_ref01_Path Ls_ref01_Path (B := B_ref01_Path) (BodiesOK.nil) Try.func24 rfl fun x y hf h => (run_ref01_Path x).trans (eq_ref01_Path x y hf h)
noncomputable def L_ref01_Below : List (Nat × LD) := [(3, ⟨⟨[(0, .hole .i), (1, .hole .i)], [], []⟩, [(.exit 0, ⟨[(0, .hole .i), (1, .hole .i)], [], []⟩)], 10⟩)]
noncomputable def Ls_ref01_Below : List (Nat × List (Nat × LD)) := []
noncomputable def B_ref01_Below : Bodies := []
theorem run_ref01_Below (x : denL [.i, .i]) : run [(51, c_ref01_Node), (43, c_ref01_Parent)] L_ref01_Below Ls_ref01_Below B_ref01_Below Try.f53 [.i, .i] [.bool] x = g_ref01_Below x := by kernel_rfl
theorem ok_ref01_Below : ConOK Try.prog 53 c_ref01_Below := con_ok (ConsOK.cons ok_ref01_Node (ConsOK.cons ok_ref01_Parent (ConsOK.nil))) L_ref01_Below Ls_ref01_Below (B := B_ref01_Below) (BodiesOK.nil) Try.func53 rfl fun x y hf h => (run_ref01_Below x).trans (eq_ref01_Below x y hf h)
noncomputable def L_shape_Leaf : List (Nat × LD) := []
noncomputable def Ls_shape_Leaf : List (Nat × List (Nat × LD)) := []
noncomputable def B_shape_Leaf : Bodies := []
theorem run_shape_Leaf (x : denL [.i]) : run [] L_shape_Leaf Ls_shape_Leaf B_shape_Leaf Try.f52 [.i] [.i] x = g_shape_Leaf x := by kernel_rfl
theorem ok_shape_Leaf : ConOK Try.prog 52 c_shape_Leaf := con_ok (ConsOK.nil) L_shape_Leaf Ls_shape_Leaf (B := B_shape_Leaf) (BodiesOK.nil) Try.func52 rfl fun x y hf h => (run_shape_Leaf x).trans (eq_shape_Leaf x y hf h)
noncomputable def L_shape_Slot : List (Nat × LD) := []
noncomputable def Ls_shape_Slot : List (Nat × List (Nat × LD)) := []
noncomputable def B_shape_Slot : Bodies := []
theorem run_shape_Slot (x : denL [.i]) : run [] L_shape_Slot Ls_shape_Slot B_shape_Slot Try.f32 [.i] [.i] x = g_shape_Slot x := by kernel_rfl
theorem ok_shape_Slot : ConOK Try.prog 32 c_shape_Slot := con_ok (ConsOK.nil) L_shape_Slot Ls_shape_Slot (B := B_shape_Slot) (BodiesOK.nil) Try.func32 rfl fun x y hf h => (run_shape_Slot x).trans (eq_shape_Slot x y hf h)
noncomputable def L_shape_first : List (Nat × LD) := []
noncomputable def Ls_shape_first : List (Nat × List (Nat × LD)) := []
noncomputable def B_shape_first : Bodies := []
theorem run_shape_first (x : denL [.i]) : run [] L_shape_first Ls_shape_first B_shape_first Try.f49 [.i] [.i] x = g_shape_first x := by kernel_rfl
theorem ok_shape_first : ConOK Try.prog 49 c_shape_first := con_ok (ConsOK.nil) L_shape_first Ls_shape_first (B := B_shape_first) (BodiesOK.nil) Try.func49 rfl fun x y hf h => (run_shape_first x).trans (eq_shape_first x y hf h)
noncomputable def L_shape_Level : List (Nat × LD) := [(5, ⟨⟨[(0, .hole .i), (3, .hole .i)], [], []⟩, [(.ret, ⟨[(2, .hole .i)], [], []⟩)], 10⟩)]
noncomputable def Ls_shape_Level : List (Nat × List (Nat × LD)) := []
noncomputable def B_shape_Level : Bodies := []
theorem run_shape_Level (x : denL [.i]) : run [(49, c_shape_first)] L_shape_Level Ls_shape_Level B_shape_Level Try.f34 [.i] [.i] x = g_shape_Level x := by kernel_rfl
theorem ok_shape_Level : ConOK Try.prog 34 c_shape_Level := con_ok (ConsOK.cons ok_shape_first (ConsOK.nil)) L_shape_Level Ls_shape_Level (B := B_shape_Level) (BodiesOK.nil) Try.func34 rfl fun x y hf h => (run_shape_Level x).trans (eq_shape_Level x y hf h)
noncomputable def L_shape_span : List (Nat × LD) := []
noncomputable def Ls_shape_span : List (Nat × List (Nat × LD)) := []
noncomputable def B_shape_span : Bodies := []
theorem run_shape_span (x : denL [.i]) : run [(34, c_shape_Level), (49, c_shape_first)] L_shape_span Ls_shape_span B_shape_span Try.f50 [.i] [.i, .i] x = g_shape_span x := by kernel_rfl
theorem ok_shape_span : ConOK Try.prog 50 c_shape_span := con_ok (ConsOK.cons ok_shape_Level (ConsOK.cons ok_shape_first (ConsOK.nil))) L_shape_span Ls_shape_span (B := B_shape_span) (BodiesOK.nil) Try.func50 rfl fun x y hf h => (run_shape_span x).trans (eq_shape_span x y hf h)
noncomputable def L_shape_Mask : List (Nat × LD) := []
noncomputable def Ls_shape_Mask : List (Nat × List (Nat × LD)) := []
noncomputable def B_shape_Mask : Bodies := []
theorem run_shape_Mask (x : denL [.i]) : run [(34, c_shape_Level), (50, c_shape_span)] L_shape_Mask Ls_shape_Mask B_shape_Mask Try.f36 [.i] [(.int .u64)] x = g_shape_Mask x := by kernel_rfl
theorem ok_shape_Mask : ConOK Try.prog 36 c_shape_Mask := con_ok (ConsOK.cons ok_shape_Level (ConsOK.cons ok_shape_span (ConsOK.nil))) L_shape_Mask Ls_shape_Mask (B := B_shape_Mask) (BodiesOK.nil) Try.func36 rfl fun x y hf h => (run_shape_Mask x).trans (eq_shape_Mask x y hf h)
noncomputable def L_shape_Path : List (Nat × LD) := [(5, ⟨⟨[(0, .hole .i), (2, .ptr 0 []), (4, .ptr 1 []), (11, .hole .i)], [(0, (.arr 3 .i), .hole (.arr 3 .i)), (1, (.arr 3 .i), .hole (.arr 3 .i))], []⟩, [(.exit 0, ⟨[(2, .ptr 0 []), (4, .ptr 1 [])], [(0, (.arr 3 .i), .hole (.arr 3 .i)), (1, (.arr 3 .i), .hole (.arr 3 .i))], []⟩)], 10⟩)]
noncomputable def Ls_shape_Path : List (Nat × List (Nat × LD)) := []
noncomputable def B_shape_Path : Bodies := []
theorem run_shape_Path (x : denL [.i]) : run [(52, c_shape_Leaf), (49, c_shape_first)] L_shape_Path Ls_shape_Path B_shape_Path Try.f38 [.i] [(.arr 3 .i), .bool] x = g_shape_Path x := by kernel_rfl
theorem ok_shape_Path : ConOK Try.prog 38 c_shape_Path := con_ok (ConsOK.cons ok_shape_Leaf (ConsOK.cons ok_shape_first (ConsOK.nil))) L_shape_Path Ls_shape_Path (B := B_shape_Path) (BodiesOK.nil) Try.func38 rfl fun x y hf h => (run_shape_Path x).trans (eq_shape_Path x y hf h)
noncomputable def L_roster_right : List (Nat × LD) := []
noncomputable def Ls_roster_right : List (Nat × List (Nat × LD)) := []
noncomputable def B_roster_right : Bodies := []
theorem run_roster_right (x : denL [(.st .entry)]) : run [] L_roster_right Ls_roster_right B_roster_right Try.f45 [(.st .entry)] [.bool] x = g_roster_right x := by kernel_rfl
theorem ok_roster_right : ConOK Try.prog 45 c_roster_right := con_ok (ConsOK.nil) L_roster_right Ls_roster_right (B := B_roster_right) (BodiesOK.nil) Try.func45 rfl fun x y hf h => (run_roster_right x).trans (eq_roster_right x y hf h)
noncomputable def L_roster_Check : List (Nat × LD) := [(3, ⟨⟨[(3, .mp 1), (4, .mp 2), (9, .hole (.arr 64 (.st .entry))), (10, .hole .i)], [], [(1, .i, .i), (2, .i, .i)]⟩, [(.ret, ⟨[(2, .hole .i)], [], []⟩), (.exit 0, ⟨[], [], []⟩)], 11⟩)]
noncomputable def Ls_roster_Check : List (Nat × List (Nat × LD)) := []
noncomputable def B_roster_Check : Bodies := []
theorem run_roster_Check (x : denL [(.arr 64 (.st .entry))]) : run [(45, c_roster_right)] L_roster_Check Ls_roster_Check B_roster_Check Try.f29 [(.arr 64 (.st .entry))] [.i] x = g_roster_Check x := by kernel_rfl
theorem ok_roster_Check : ConOK Try.prog 29 c_roster_Check := con_ok (ConsOK.cons ok_roster_right (ConsOK.nil)) L_roster_Check Ls_roster_Check (B := B_roster_Check) (BodiesOK.nil) Try.func29 rfl fun x y hf h => (run_roster_Check x).trans (eq_roster_Check x y hf h)
noncomputable def L_roster_Taken : List (Nat × LD) := [(3, ⟨⟨[(3, .hole (.int .u64)), (6, .hole (.arr 64 (.st .entry))), (7, .hole .i)], [], []⟩, [(.exit 0, ⟨[(3, .hole (.int .u64))], [], []⟩)], 11⟩)]
noncomputable def Ls_roster_Taken : List (Nat × List (Nat × LD)) := []
noncomputable def B_roster_Taken : Bodies := []
theorem run_roster_Taken (x : denL [(.arr 64 (.st .entry))]) : run [] L_roster_Taken Ls_roster_Taken B_roster_Taken Try.f35 [(.arr 64 (.st .entry))] [(.int .u64)] x = g_roster_Taken x := by kernel_rfl
theorem ok_roster_Taken : ConOK Try.prog 35 c_roster_Taken := con_ok (ConsOK.nil) L_roster_Taken Ls_roster_Taken (B := B_roster_Taken) (BodiesOK.nil) Try.func35 rfl fun x y hf h => (run_roster_Taken x).trans (eq_roster_Taken x y hf h)
noncomputable def L_roster_Find : List (Nat × LD) := []
noncomputable def Ls_roster_Find : List (Nat × List (Nat × LD)) := [(54, [(2, ⟨⟨[(0, .asl 0 []), (1, .fn 55 [1]), (7, .hole .i), (8, .hole .i)], [(0, (.arr 64 (.st .entry)), .hole (.arr 64 (.st .entry))), (1, .i, .hole .i)], []⟩, [(.ret, ⟨[(4, .hole .i)], [], []⟩), (.exit 0, ⟨[], [], []⟩)], 10⟩)])]
noncomputable def B_roster_Find : Bodies := [bodyLine 55 Try.f55, bodyLine 54 Try.f54]
theorem run_roster_Find (x : denL [(.arr 64 (.st .entry)), .i]) : run [] L_roster_Find Ls_roster_Find B_roster_Find Try.f40 [(.arr 64 (.st .entry)), .i] [.i] x = g_roster_Find x := by kernel_rfl
theorem ok_roster_Find : ConOK Try.prog 40 c_roster_Find := con_ok (ConsOK.nil) L_roster_Find Ls_roster_Find (B := B_roster_Find) (BodiesOK.cons Try.func55 rfl (BodiesOK.cons Try.func54 rfl (BodiesOK.nil))) Try.func40 rfl fun x y hf h => (run_roster_Find x).trans (eq_roster_Find x y hf h)
noncomputable def L_ref09_Right : List (Nat × LD) := []
noncomputable def Ls_ref09_Right : List (Nat × List (Nat × LD)) := []
noncomputable def B_ref09_Right : Bodies := []
theorem run_ref09_Right (x : denL [(.st .entry)]) : run [] L_ref09_Right Ls_ref09_Right B_ref09_Right Try.f47 [(.st .entry)] [.bool] x = g_ref09_Right x := by kernel_rfl
theorem ok_ref09_Right : ConOK Try.prog 47 c_ref09_Right := con_ok (ConsOK.nil) L_ref09_Right Ls_ref09_Right (B := B_ref09_Right) (BodiesOK.nil) Try.func47 rfl fun x y hf h => (run_ref09_Right x).trans (eq_ref09_Right x y hf h)
noncomputable def L_ref09_Check : List (Nat × LD) := [(8, ⟨⟨[(1, .ptr 0 []), (3, .hole .i), (4, .hole .i)], [(0, (.arr 64 (.st .entry)), .hole (.arr 64 (.st .entry)))], []⟩, [(.ret, ⟨[(2, .hole .i)], [], []⟩), (.exit 2, ⟨[(1, .ptr 0 []), (3, .hole .i)], [(0, (.arr 64 (.st .entry)), .hole (.arr 64 (.st .entry)))], []⟩)], 10⟩), (2, ⟨⟨[(1, .ptr 0 []), (3, .hole .i)], [(0, (.arr 64 (.st .entry)), .hole (.arr 64 (.st .entry)))], []⟩, [(.ret, ⟨[(2, .hole .i)], [], []⟩), (.exit 0, ⟨[], [], []⟩)], 20⟩)]
noncomputable def Ls_ref09_Check : List (Nat × List (Nat × LD)) := []
noncomputable def B_ref09_Check : Bodies := []
theorem run_ref09_Check (x : denL [(.arr 64 (.st .entry))]) : run [(47, c_ref09_Right)] L_ref09_Check Ls_ref09_Check B_ref09_Check Try.f31 [(.arr 64 (.st .entry))] [.i] x = g_ref09_Check x := by kernel_rfl
theorem ok_ref09_Check : ConOK Try.prog 31 c_ref09_Check := con_ok (ConsOK.cons ok_ref09_Right (ConsOK.nil)) L_ref09_Check Ls_ref09_Check (B := B_ref09_Check) (BodiesOK.nil) Try.func31 rfl fun x y hf h => (run_ref09_Check x).trans (eq_ref09_Check x y hf h)
noncomputable def L_ref09_Find : List (Nat × LD) := [(2, ⟨⟨[(1, .hole .i), (2, .ptr 0 []), (5, .hole .i)], [(0, (.arr 64 (.st .entry)), .hole (.arr 64 (.st .entry)))], []⟩, [(.ret, ⟨[(4, .hole .i)], [], []⟩), (.exit 0, ⟨[], [], []⟩)], 10⟩)]
noncomputable def Ls_ref09_Find : List (Nat × List (Nat × LD)) := []
noncomputable def B_ref09_Find : Bodies := []
theorem run_ref09_Find (x : denL [(.arr 64 (.st .entry)), .i]) : run [] L_ref09_Find Ls_ref09_Find B_ref09_Find Try.f41 [(.arr 64 (.st .entry)), .i] [.i] x = g_ref09_Find x := by kernel_rfl
theorem ok_ref09_Find : ConOK Try.prog 41 c_ref09_Find := con_ok (ConsOK.nil) L_ref09_Find Ls_ref09_Find (B := B_ref09_Find) (BodiesOK.nil) Try.func41 rfl fun x y hf h => (run_ref09_Find x).trans (eq_ref09_Find x y hf h)
noncomputable def L_keytree_Start : List (Nat × LD) := [(3, ⟨⟨[(0, .ptr 0 []), (1, .ptr 1 []), (4, .hole .i)], [(0, (.st .tree), .hole (.st .tree)), (1, (.st .tree), .hole (.st .tree))], []⟩, [(.exit 0, ⟨[(0, .ptr 0 []), (1, .ptr 1 [])], [(0, (.st .tree), .hole (.st .tree)), (1, (.st .tree), .hole (.st .tree))], []⟩)], 10⟩)]
noncomputable def Ls_keytree_Start : List (Nat × List (Nat × LD)) := []
noncomputable def B_keytree_Start : Bodies := []
theorem run_keytree_Start (x : denL []) : run [] L_keytree_Start Ls_keytree_Start B_keytree_Start Try.f26 [] [(.st .tree)] x = g_keytree_Start x := by kernel_rfl
theorem ok_keytree_Start : ConOK Try.prog 26 c_keytree_Start := con_ok (ConsOK.nil) L_keytree_Start Ls_keytree_Start (B := B_keytree_Start) (BodiesOK.nil) Try.func26 rfl fun x y hf h => (run_keytree_Start x).trans (eq_keytree_Start x y hf h)
noncomputable def L_keytree_Check : List (Nat × LD) := [(7, ⟨⟨[(1, .ptr 0 []), (3, .mp 1), (38, .hole (.arr 21 (.st .key))), (39, .hole .i)], [(0, (.st .tree), .hole (.st .tree))], [(1, .i, .i)]⟩, [(.ret, ⟨[(2, .hole .i)], [], []⟩), (.exit 0, ⟨[(1, .ptr 0 []), (3, .mp 1)], [(0, (.st .tree), .hole (.st .tree))], [(1, .i, .i)]⟩)], 11⟩), (14, ⟨⟨[(1, .ptr 0 []), (3, .mp 1), (61, .hole (.arr 64 (.st .entry))), (62, .hole .i)], [(0, (.st .tree), .hole (.st .tree))], [(1, .i, .i)]⟩, [(.ret, ⟨[(2, .hole .i)], [], []⟩), (.exit 2, ⟨[], [], []⟩)], 11⟩)]
noncomputable def Ls_keytree_Check : List (Nat × List (Nat × LD)) := []
noncomputable def B_keytree_Check : Bodies := []
theorem run_keytree_Check (x : denL [(.st .tree)]) : run [(28, c_ratchet_Check), (29, c_roster_Check)] L_keytree_Check Ls_keytree_Check B_keytree_Check Try.f10 [(.st .tree)] [.i] x = g_keytree_Check x := by kernel_rfl
theorem ok_keytree_Check : ConOK Try.prog 10 c_keytree_Check := con_ok (ConsOK.cons ok_ratchet_Check (ConsOK.cons ok_roster_Check (ConsOK.nil))) L_keytree_Check Ls_keytree_Check (B := B_keytree_Check) (BodiesOK.nil) Try.func10 rfl fun x y hf h => (run_keytree_Check x).trans (eq_keytree_Check x y hf h)
noncomputable def L_keytree_KeyOf : List (Nat × LD) := []
noncomputable def Ls_keytree_KeyOf : List (Nat × List (Nat × LD)) := []
noncomputable def B_keytree_KeyOf : Bodies := []
theorem run_keytree_KeyOf (x : denL [(.st .tree), .i]) : run [(10, c_keytree_Check), (32, c_shape_Slot), (33, c_ratchet_LeafAt), (34, c_shape_Level)] L_keytree_KeyOf Ls_keytree_KeyOf B_keytree_KeyOf Try.f12 [(.st .tree), .i] [(.st .key), .i] x = g_keytree_KeyOf x := by kernel_rfl
theorem ok_keytree_KeyOf : ConOK Try.prog 12 c_keytree_KeyOf := con_ok (ConsOK.cons ok_keytree_Check (ConsOK.cons ok_shape_Slot (ConsOK.cons ok_ratchet_LeafAt (ConsOK.cons ok_shape_Level (ConsOK.nil))))) L_keytree_KeyOf Ls_keytree_KeyOf (B := B_keytree_KeyOf) (BodiesOK.nil) Try.func12 rfl fun x y hf h => (run_keytree_KeyOf x).trans (eq_keytree_KeyOf x y hf h)
noncomputable def L_keytree_Group : List (Nat × LD) := []
noncomputable def Ls_keytree_Group : List (Nat × List (Nat × LD)) := []
noncomputable def B_keytree_Group : Bodies := []
theorem run_keytree_Group (x : denL [(.st .tree)]) : run [(12, c_keytree_KeyOf)] L_keytree_Group Ls_keytree_Group B_keytree_Group Try.f18 [(.st .tree)] [(.st .key), .i] x = g_keytree_Group x := by kernel_rfl
theorem ok_keytree_Group : ConOK Try.prog 18 c_keytree_Group := con_ok (ConsOK.cons ok_keytree_KeyOf (ConsOK.nil)) L_keytree_Group Ls_keytree_Group (B := B_keytree_Group) (BodiesOK.nil) Try.func18 rfl fun x y hf h => (run_keytree_Group x).trans (eq_keytree_Group x y hf h)
noncomputable def L_keytree_PathOf : List (Nat × LD) := [(9, ⟨⟨[(2, .ptr 0 []), (4, .ptr 1 []), (9, .ptr 3 []), (26, .hole (.arr 3 .i)), (27, .hole .i)], [(0, (.st .tree), .hole (.st .tree)), (1, (.arr 3 (.st .key)), .hole (.arr 3 (.st .key))), (3, (.arr 3 (.st .key)), .hole (.arr 3 (.st .key)))], []⟩, [(.exit 0, ⟨[(4, .ptr 1 []), (9, .ptr 3 [])], [(1, (.arr 3 (.st .key)), .hole (.arr 3 (.st .key))), (3, (.arr 3 (.st .key)), .hole (.arr 3 (.st .key)))], []⟩)], 10⟩)]
noncomputable def Ls_keytree_PathOf : List (Nat × List (Nat × LD)) := []
noncomputable def B_keytree_PathOf : Bodies := []
theorem run_keytree_PathOf (x : denL [(.st .tree), .i]) : run [(10, c_keytree_Check), (38, c_shape_Path)] L_keytree_PathOf Ls_keytree_PathOf B_keytree_PathOf Try.f16 [(.st .tree), .i] [(.arr 3 (.st .key)), .i] x = g_keytree_PathOf x := by kernel_rfl
theorem ok_keytree_PathOf : ConOK Try.prog 16 c_keytree_PathOf := con_ok (ConsOK.cons ok_keytree_Check (ConsOK.cons ok_shape_Path (ConsOK.nil))) L_keytree_PathOf Ls_keytree_PathOf (B := B_keytree_PathOf) (BodiesOK.nil) Try.func16 rfl fun x y hf h => (run_keytree_PathOf x).trans (eq_keytree_PathOf x y hf h)
noncomputable def L_keytree_Held : List (Nat × LD) := []
noncomputable def Ls_keytree_Held : List (Nat × List (Nat × LD)) := []
noncomputable def B_keytree_Held : Bodies := []
theorem run_keytree_Held (x : denL [(.st .tree), .i]) : run [(10, c_keytree_Check), (35, c_roster_Taken), (36, c_shape_Mask)] L_keytree_Held Ls_keytree_Held B_keytree_Held Try.f13 [(.st .tree), .i] [.bool] x = g_keytree_Held x := by kernel_rfl
theorem ok_keytree_Held : ConOK Try.prog 13 c_keytree_Held := con_ok (ConsOK.cons ok_keytree_Check (ConsOK.cons ok_roster_Taken (ConsOK.cons ok_shape_Mask (ConsOK.nil)))) L_keytree_Held Ls_keytree_Held (B := B_keytree_Held) (BodiesOK.nil) Try.func13 rfl fun x y hf h => (run_keytree_Held x).trans (eq_keytree_Held x y hf h)
noncomputable def L_keytree_Card : List (Nat × LD) := []
noncomputable def Ls_keytree_Card : List (Nat × List (Nat × LD)) := []
noncomputable def B_keytree_Card : Bodies := []
theorem run_keytree_Card (x : denL [(.st .tree), .i]) : run [(10, c_keytree_Check), (40, c_roster_Find), (33, c_ratchet_LeafAt)] L_keytree_Card Ls_keytree_Card B_keytree_Card Try.f20 [(.st .tree), .i] [(.st .card), .i] x = g_keytree_Card x := by kernel_rfl
theorem ok_keytree_Card : ConOK Try.prog 20 c_keytree_Card := con_ok (ConsOK.cons ok_keytree_Check (ConsOK.cons ok_roster_Find (ConsOK.cons ok_ratchet_LeafAt (ConsOK.nil)))) L_keytree_Card Ls_keytree_Card (B := B_keytree_Card) (BodiesOK.nil) Try.func20 rfl fun x y hf h => (run_keytree_Card x).trans (eq_keytree_Card x y hf h)
noncomputable def L_keytree_Stand : List (Nat × LD) := []
noncomputable def Ls_keytree_Stand : List (Nat × List (Nat × LD)) := []
noncomputable def B_keytree_Stand : Bodies := []
theorem run_keytree_Stand (x : denL [(.st .tree), .i]) : run [(20, c_keytree_Card), (16, c_keytree_PathOf)] L_keytree_Stand Ls_keytree_Stand B_keytree_Stand Try.f22 [(.st .tree), .i] [(.st .member), .i] x = g_keytree_Stand x := by kernel_rfl
theorem ok_keytree_Stand : ConOK Try.prog 22 c_keytree_Stand := con_ok (ConsOK.cons ok_keytree_Card (ConsOK.cons ok_keytree_PathOf (ConsOK.nil))) L_keytree_Stand Ls_keytree_Stand (B := B_keytree_Stand) (BodiesOK.nil) Try.func22 rfl fun x y hf h => (run_keytree_Stand x).trans (eq_keytree_Stand x y hf h)
noncomputable def L_ref11_Start : List (Nat × LD) := [(3, ⟨⟨[(0, .ptr 0 []), (1, .ptr 1 []), (2, .hole .i)], [(0, (.st .tree), .hole (.st .tree)), (1, (.st .tree), .hole (.st .tree))], []⟩, [(.exit 0, ⟨[(0, .ptr 0 []), (1, .ptr 1 [])], [(0, (.st .tree), .hole (.st .tree)), (1, (.st .tree), .hole (.st .tree))], []⟩)], 10⟩)]
noncomputable def Ls_ref11_Start : List (Nat × List (Nat × LD)) := []
noncomputable def B_ref11_Start : Bodies := []
theorem run_ref11_Start (x : denL []) : run [] L_ref11_Start Ls_ref11_Start B_ref11_Start Try.f27 [] [(.st .tree)] x = g_ref11_Start x := by kernel_rfl
theorem ok_ref11_Start : ConOK Try.prog 27 c_ref11_Start := con_ok (ConsOK.nil) L_ref11_Start Ls_ref11_Start (B := B_ref11_Start) (BodiesOK.nil) Try.func27 rfl fun x y hf h => (run_ref11_Start x).trans (eq_ref11_Start x y hf h)
noncomputable def L_ref11_Check : List (Nat × LD) := [(4, ⟨⟨[(1, .ptr 0 []), (3, .hole .i)], [(0, (.st .tree), .hole (.st .tree))], []⟩, [(.ret, ⟨[(2, .hole .i)], [], []⟩), (.exit 0, ⟨[(1, .ptr 0 [])], [(0, (.st .tree), .hole (.st .tree))], []⟩)], 10⟩), (14, ⟨⟨[(1, .ptr 0 []), (4, .hole .i), (5, .hole .i)], [(0, (.st .tree), .hole (.st .tree))], []⟩, [(.ret, ⟨[(2, .hole .i)], [], []⟩), (.exit 4, ⟨[(1, .ptr 0 []), (4, .hole .i)], [(0, (.st .tree), .hole (.st .tree))], []⟩)], 10⟩), (9, ⟨⟨[(1, .ptr 0 []), (4, .hole .i)], [(0, (.st .tree), .hole (.st .tree))], []⟩, [(.ret, ⟨[(2, .hole .i)], [], []⟩), (.exit 2, ⟨[], [], []⟩)], 20⟩)]
noncomputable def Ls_ref11_Check : List (Nat × List (Nat × LD)) := []
noncomputable def B_ref11_Check : Bodies := []
theorem run_ref11_Check (x : denL [(.st .tree)]) : run [(30, c_ref10_Check), (31, c_ref09_Check)] L_ref11_Check Ls_ref11_Check B_ref11_Check Try.f11 [(.st .tree)] [.i] x = g_ref11_Check x := by kernel_rfl
theorem ok_ref11_Check : ConOK Try.prog 11 c_ref11_Check := con_ok (ConsOK.cons ok_ref10_Check (ConsOK.cons ok_ref09_Check (ConsOK.nil))) L_ref11_Check Ls_ref11_Check (B := B_ref11_Check) (BodiesOK.nil) Try.func11 rfl fun x y hf h => (run_ref11_Check x).trans (eq_ref11_Check x y hf h)
noncomputable def L_ref11_Of : List (Nat × LD) := []
noncomputable def Ls_ref11_Of : List (Nat × List (Nat × LD)) := []
noncomputable def B_ref11_Of : Bodies := []
theorem run_ref11_Of (x : denL [(.st .tree), .i]) : run [(51, c_ref01_Node), (42, c_ref10_LeafAt)] L_ref11_Of Ls_ref11_Of B_ref11_Of Try.f37 [(.st .tree), .i] [(.st .key), .i] x = g_ref11_Of x := by kernel_rfl
theorem ok_ref11_Of : ConOK Try.prog 37 c_ref11_Of := con_ok (ConsOK.cons ok_ref01_Node (ConsOK.cons ok_ref10_LeafAt (ConsOK.nil))) L_ref11_Of Ls_ref11_Of (B := B_ref11_Of) (BodiesOK.nil) Try.func37 rfl fun x y hf h => (run_ref11_Of x).trans (eq_ref11_Of x y hf h)
noncomputable def L_ref11_KeyOf : List (Nat × LD) := []
noncomputable def Ls_ref11_KeyOf : List (Nat × List (Nat × LD)) := []
noncomputable def B_ref11_KeyOf : Bodies := []
theorem run_ref11_KeyOf (x : denL [(.st .tree), .i]) : run [(11, c_ref11_Check), (37, c_ref11_Of)] L_ref11_KeyOf Ls_ref11_KeyOf B_ref11_KeyOf Try.f15 [(.st .tree), .i] [(.st .key), .i] x = g_ref11_KeyOf x := by kernel_rfl
theorem ok_ref11_KeyOf : ConOK Try.prog 15 c_ref11_KeyOf := con_ok (ConsOK.cons ok_ref11_Check (ConsOK.cons ok_ref11_Of (ConsOK.nil))) L_ref11_KeyOf Ls_ref11_KeyOf (B := B_ref11_KeyOf) (BodiesOK.nil) Try.func15 rfl fun x y hf h => (run_ref11_KeyOf x).trans (eq_ref11_KeyOf x y hf h)
noncomputable def L_ref11_PathOf : List (Nat × LD) := [(8, ⟨⟨[(2, .ptr 0 []), (4, .ptr 1 []), (6, .ptr 2 []), (7, .ptr 3 []), (9, .hole .i)], [(0, (.st .tree), .hole (.st .tree)), (1, (.arr 3 (.st .key)), .hole (.arr 3 (.st .key))), (2, (.arr 3 (.st .key)), .hole (.arr 3 (.st .key))), (3, (.arr 3 .i), .hole (.arr 3 .i))], []⟩, [(.exit 0, ⟨[(4, .ptr 1 []), (6, .ptr 2 [])], [(1, (.arr 3 (.st .key)), .hole (.arr 3 (.st .key))), (2, (.arr 3 (.st .key)), .hole (.arr 3 (.st .key)))], []⟩)], 10⟩)]
noncomputable def Ls_ref11_PathOf : List (Nat × List (Nat × LD)) := []
noncomputable def B_ref11_PathOf : Bodies := []
theorem run_ref11_PathOf (x : denL [(.st .tree), .i]) : run [(11, c_ref11_Check), (24, c_ref01_Path)] L_ref11_PathOf Ls_ref11_PathOf B_ref11_PathOf Try.f17 [(.st .tree), .i] [(.arr 3 (.st .key)), .i] x = g_ref11_PathOf x := by kernel_rfl
theorem ok_ref11_PathOf : ConOK Try.prog 17 c_ref11_PathOf := con_ok (ConsOK.cons ok_ref11_Check (ConsOK.cons ok_ref01_Path (ConsOK.nil))) L_ref11_PathOf Ls_ref11_PathOf (B := B_ref11_PathOf) (BodiesOK.nil) Try.func17 rfl fun x y hf h => (run_ref11_PathOf x).trans (eq_ref11_PathOf x y hf h)
noncomputable def L_ref11_Below : List (Nat × LD) := [(2, ⟨⟨[(1, .hole .i), (2, .ptr 0 []), (5, .hole .i)], [(0, (.arr 64 (.st .entry)), .hole (.arr 64 (.st .entry)))], []⟩, [(.ret, ⟨[(4, .hole .bool)], [], []⟩), (.exit 0, ⟨[], [], []⟩)], 10⟩)]
noncomputable def Ls_ref11_Below : List (Nat × List (Nat × LD)) := []
noncomputable def B_ref11_Below : Bodies := []
theorem run_ref11_Below (x : denL [(.arr 64 (.st .entry)), .i]) : run [(25, c_ref01_Leaf), (53, c_ref01_Below)] L_ref11_Below Ls_ref11_Below B_ref11_Below Try.f39 [(.arr 64 (.st .entry)), .i] [.bool] x = g_ref11_Below x := by kernel_rfl
theorem ok_ref11_Below : ConOK Try.prog 39 c_ref11_Below := con_ok (ConsOK.cons ok_ref01_Leaf (ConsOK.cons ok_ref01_Below (ConsOK.nil))) L_ref11_Below Ls_ref11_Below (B := B_ref11_Below) (BodiesOK.nil) Try.func39 rfl fun x y hf h => (run_ref11_Below x).trans (eq_ref11_Below x y hf h)
noncomputable def L_ref11_Held : List (Nat × LD) := []
noncomputable def Ls_ref11_Held : List (Nat × List (Nat × LD)) := []
noncomputable def B_ref11_Held : Bodies := []
theorem run_ref11_Held (x : denL [(.st .tree), .i]) : run [(11, c_ref11_Check), (39, c_ref11_Below)] L_ref11_Held Ls_ref11_Held B_ref11_Held Try.f19 [(.st .tree), .i] [.bool] x = g_ref11_Held x := by kernel_rfl
theorem ok_ref11_Held : ConOK Try.prog 19 c_ref11_Held := con_ok (ConsOK.cons ok_ref11_Check (ConsOK.cons ok_ref11_Below (ConsOK.nil))) L_ref11_Held Ls_ref11_Held (B := B_ref11_Held) (BodiesOK.nil) Try.func19 rfl fun x y hf h => (run_ref11_Held x).trans (eq_ref11_Held x y hf h)
noncomputable def L_ref11_Stand : List (Nat × LD) := []
noncomputable def Ls_ref11_Stand : List (Nat × List (Nat × LD)) := []
noncomputable def B_ref11_Stand : Bodies := []
theorem run_ref11_Stand (x : denL [(.st .tree), .i]) : run [(11, c_ref11_Check), (41, c_ref09_Find), (42, c_ref10_LeafAt), (17, c_ref11_PathOf)] L_ref11_Stand Ls_ref11_Stand B_ref11_Stand Try.f23 [(.st .tree), .i] [(.st .member), .i] x = g_ref11_Stand x := by kernel_rfl
theorem ok_ref11_Stand : ConOK Try.prog 23 c_ref11_Stand := con_ok (ConsOK.cons ok_ref11_Check (ConsOK.cons ok_ref09_Find (ConsOK.cons ok_ref10_LeafAt (ConsOK.cons ok_ref11_PathOf (ConsOK.nil))))) L_ref11_Stand Ls_ref11_Stand (B := B_ref11_Stand) (BodiesOK.nil) Try.func23 rfl fun x y hf h => (run_ref11_Stand x).trans (eq_ref11_Stand x y hf h)
noncomputable def L_ref11_Card : List (Nat × LD) := []
noncomputable def Ls_ref11_Card : List (Nat × List (Nat × LD)) := []
noncomputable def B_ref11_Card : Bodies := []
theorem run_ref11_Card (x : denL [(.st .tree), .i]) : run [(23, c_ref11_Stand)] L_ref11_Card Ls_ref11_Card B_ref11_Card Try.f21 [(.st .tree), .i] [(.st .card), .i] x = g_ref11_Card x := by kernel_rfl
theorem ok_ref11_Card : ConOK Try.prog 21 c_ref11_Card := con_ok (ConsOK.cons ok_ref11_Stand (ConsOK.nil)) L_ref11_Card Ls_ref11_Card (B := B_ref11_Card) (BodiesOK.nil) Try.func21 rfl fun x y hf h => (run_ref11_Card x).trans (eq_ref11_Card x y hf h)
noncomputable def L_law11_lives : List (Nat × LD) := []
noncomputable def Ls_law11_lives : List (Nat × List (Nat × LD)) := []
noncomputable def B_law11_lives : Bodies := []
theorem run_law11_lives (x : denL []) : run [(26, c_keytree_Start), (18, c_keytree_Group), (10, c_keytree_Check), (27, c_ref11_Start)] L_law11_lives Ls_law11_lives B_law11_lives Try.f9 [] [.bool] x = g_law11_lives x := by kernel_rfl
theorem ok_law11_lives : ConOK Try.prog 9 c_law11_lives := con_ok (ConsOK.cons ok_keytree_Start (ConsOK.cons ok_keytree_Group (ConsOK.cons ok_keytree_Check (ConsOK.cons ok_ref11_Start (ConsOK.nil))))) L_law11_lives Ls_law11_lives (B := B_law11_lives) (BodiesOK.nil) Try.func9 rfl fun x y hf h => (run_law11_lives x).trans (eq_law11_lives x y hf h)
noncomputable def L_law11_TreeChecks : List (Nat × LD) := []
noncomputable def Ls_law11_TreeChecks : List (Nat × List (Nat × LD)) := []
noncomputable def B_law11_TreeChecks : Bodies := []
theorem run_law11_TreeChecks (x : denL [(.st .tree)]) : run [(9, c_law11_lives), (10, c_keytree_Check), (11, c_ref11_Check)] L_law11_TreeChecks Ls_law11_TreeChecks B_law11_TreeChecks Try.f3 [(.st .tree)] [.bool] x = g_law11_TreeChecks x := by kernel_rfl
theorem ok_law11_TreeChecks : ConOK Try.prog 3 c_law11_TreeChecks := con_ok (ConsOK.cons ok_law11_lives (ConsOK.cons ok_keytree_Check (ConsOK.cons ok_ref11_Check (ConsOK.nil)))) L_law11_TreeChecks Ls_law11_TreeChecks (B := B_law11_TreeChecks) (BodiesOK.nil) Try.func3 rfl fun x y hf h => (run_law11_TreeChecks x).trans (eq_law11_TreeChecks x y hf h)
noncomputable def L_law11_TreeNames : List (Nat × LD) := [(7, ⟨⟨[(1, .ptr 0 []), (3, .mp 1), (4, .hole .i)], [(0, (.st .tree), .hole (.st .tree))], [(1, .i, .i)]⟩, [(.ret, ⟨[(2, .hole .bool)], [], []⟩), (.exit 0, ⟨[], [], []⟩)], 11⟩)]
noncomputable def Ls_law11_TreeNames : List (Nat × List (Nat × LD)) := []
noncomputable def B_law11_TreeNames : Bodies := []
theorem run_law11_TreeNames (x : denL [(.st .tree)]) : run [(9, c_law11_lives), (10, c_keytree_Check), (11, c_ref11_Check), (12, c_keytree_KeyOf)] L_law11_TreeNames Ls_law11_TreeNames B_law11_TreeNames Try.f4 [(.st .tree)] [.bool] x = g_law11_TreeNames x := by kernel_rfl
theorem ok_law11_TreeNames : ConOK Try.prog 4 c_law11_TreeNames := con_ok (ConsOK.cons ok_law11_lives (ConsOK.cons ok_keytree_Check (ConsOK.cons ok_ref11_Check (ConsOK.cons ok_keytree_KeyOf (ConsOK.nil))))) L_law11_TreeNames Ls_law11_TreeNames (B := B_law11_TreeNames) (BodiesOK.nil) Try.func4 rfl fun x y hf h => (run_law11_TreeNames x).trans (eq_law11_TreeNames x y hf h)
noncomputable def L_law11_TreeHeld : List (Nat × LD) := [(13, ⟨⟨[(1, .ptr 0 []), (3, .hole .i), (6, .hole .bool), (7, .hole .i)], [(0, (.st .tree), .hole (.st .tree))], []⟩, [(.exit 2, ⟨[(1, .ptr 0 []), (3, .hole .i), (6, .hole .bool)], [(0, (.st .tree), .hole (.st .tree))], []⟩)], 10⟩), (6, ⟨⟨[(1, .ptr 0 []), (3, .hole .i)], [(0, (.st .tree), .hole (.st .tree))], []⟩, [(.ret, ⟨[(2, .hole .bool)], [], []⟩), (.exit 0, ⟨[], [], []⟩)], 21⟩)]
noncomputable def Ls_law11_TreeHeld : List (Nat × List (Nat × LD)) := []
noncomputable def B_law11_TreeHeld : Bodies := []
theorem run_law11_TreeHeld (x : denL [(.st .tree)]) : run [(9, c_law11_lives), (11, c_ref11_Check), (13, c_keytree_Held), (12, c_keytree_KeyOf), (14, c_ref01_Child)] L_law11_TreeHeld Ls_law11_TreeHeld B_law11_TreeHeld Try.f5 [(.st .tree)] [.bool] x = g_law11_TreeHeld x := by kernel_rfl
theorem ok_law11_TreeHeld : ConOK Try.prog 5 c_law11_TreeHeld := con_ok (ConsOK.cons ok_law11_lives (ConsOK.cons ok_ref11_Check (ConsOK.cons ok_keytree_Held (ConsOK.cons ok_keytree_KeyOf (ConsOK.cons ok_ref01_Child (ConsOK.nil)))))) L_law11_TreeHeld Ls_law11_TreeHeld (B := B_law11_TreeHeld) (BodiesOK.nil) Try.func5 rfl fun x y hf h => (run_law11_TreeHeld x).trans (eq_law11_TreeHeld x y hf h)
noncomputable def L_law11_TreeKeys : List (Nat × LD) := []
noncomputable def Ls_law11_TreeKeys : List (Nat × List (Nat × LD)) := []
noncomputable def B_law11_TreeKeys : Bodies := []
theorem run_law11_TreeKeys (x : denL [(.st .tree), .i, .i]) : run [(9, c_law11_lives), (12, c_keytree_KeyOf), (15, c_ref11_KeyOf), (16, c_keytree_PathOf), (17, c_ref11_PathOf), (18, c_keytree_Group)] L_law11_TreeKeys Ls_law11_TreeKeys B_law11_TreeKeys Try.f6 [(.st .tree), .i, .i] [.bool] x = g_law11_TreeKeys x := by kernel_rfl
theorem ok_law11_TreeKeys : ConOK Try.prog 6 c_law11_TreeKeys := con_ok (ConsOK.cons ok_law11_lives (ConsOK.cons ok_keytree_KeyOf (ConsOK.cons ok_ref11_KeyOf (ConsOK.cons ok_keytree_PathOf (ConsOK.cons ok_ref11_PathOf (ConsOK.cons ok_keytree_Group (ConsOK.nil))))))) L_law11_TreeKeys Ls_law11_TreeKeys (B := B_law11_TreeKeys) (BodiesOK.nil) Try.func6 rfl fun x y hf h => (run_law11_TreeKeys x).trans (eq_law11_TreeKeys x y hf h)
noncomputable def L_law11_TreeStands : List (Nat × LD) := []
noncomputable def Ls_law11_TreeStands : List (Nat × List (Nat × LD)) := []
noncomputable def B_law11_TreeStands : Bodies := []
theorem run_law11_TreeStands (x : denL [(.st .tree), .i, .i]) : run [(9, c_law11_lives), (13, c_keytree_Held), (19, c_ref11_Held), (20, c_keytree_Card), (21, c_ref11_Card), (22, c_keytree_Stand), (23, c_ref11_Stand)] L_law11_TreeStands Ls_law11_TreeStands B_law11_TreeStands Try.f7 [(.st .tree), .i, .i] [.bool] x = g_law11_TreeStands x := by kernel_rfl
theorem ok_law11_TreeStands : ConOK Try.prog 7 c_law11_TreeStands := con_ok (ConsOK.cons ok_law11_lives (ConsOK.cons ok_keytree_Held (ConsOK.cons ok_ref11_Held (ConsOK.cons ok_keytree_Card (ConsOK.cons ok_ref11_Card (ConsOK.cons ok_keytree_Stand (ConsOK.cons ok_ref11_Stand (ConsOK.nil)))))))) L_law11_TreeStands Ls_law11_TreeStands (B := B_law11_TreeStands) (BodiesOK.nil) Try.func7 rfl fun x y hf h => (run_law11_TreeStands x).trans (eq_law11_TreeStands x y hf h)
noncomputable def L_law11_TreePaths : List (Nat × LD) := [(9, ⟨⟨[(2, .ptr 0 []), (5, .hole .i), (6, .ptr 1 []), (7, .hole .i), (8, .ptr 2 []), (10, .hole .i)], [(0, (.st .tree), .hole (.st .tree)), (1, (.arr 3 (.st .key)), .hole (.arr 3 (.st .key))), (2, (.arr 3 .i), .hole (.arr 3 .i))], []⟩, [(.ret, ⟨[(4, .hole .bool)], [], []⟩), (.exit 0, ⟨[(2, .ptr 0 []), (5, .hole .i), (6, .ptr 1 []), (7, .hole .i)], [(0, (.st .tree), .hole (.st .tree)), (1, (.arr 3 (.st .key)), .hole (.arr 3 (.st .key)))], []⟩)], 11⟩)]
noncomputable def Ls_law11_TreePaths : List (Nat × List (Nat × LD)) := []
noncomputable def B_law11_TreePaths : Bodies := []
theorem run_law11_TreePaths (x : denL [(.st .tree), .i]) : run [(9, c_law11_lives), (16, c_keytree_PathOf), (11, c_ref11_Check), (24, c_ref01_Path), (12, c_keytree_KeyOf), (18, c_keytree_Group), (25, c_ref01_Leaf), (13, c_keytree_Held), (22, c_keytree_Stand), (20, c_keytree_Card)] L_law11_TreePaths Ls_law11_TreePaths B_law11_TreePaths Try.f8 [(.st .tree), .i] [.bool] x = g_law11_TreePaths x := by kernel_rfl
theorem ok_law11_TreePaths : ConOK Try.prog 8 c_law11_TreePaths := con_ok (ConsOK.cons ok_law11_lives (ConsOK.cons ok_keytree_PathOf (ConsOK.cons ok_ref11_Check (ConsOK.cons ok_ref01_Path (ConsOK.cons ok_keytree_KeyOf (ConsOK.cons ok_keytree_Group (ConsOK.cons ok_ref01_Leaf (ConsOK.cons ok_keytree_Held (ConsOK.cons ok_keytree_Stand (ConsOK.cons ok_keytree_Card (ConsOK.nil))))))))))) L_law11_TreePaths Ls_law11_TreePaths (B := B_law11_TreePaths) (BodiesOK.nil) Try.func8 rfl fun x y hf h => (run_law11_TreePaths x).trans (eq_law11_TreePaths x y hf h)
end Go.Proofs.Ytbjcennoneepiaa
