/-
  The program computes so: printed by a program of my own (wip/tool).
  A range over an iterator that keeps a box of its own: what the loop's body must keep.
  The n least free slots: the program's function that ranges over an iterator of its own.
  What each function computes, printed by a program of my own (wip/tool) out of its run.
  Moves: the program's function answers what the reference's does.
  Plans: one step, its message, what it costs.
  Plans: the message's items.
  What a step's message costs.
  The names that a step gives: from the old Fresh on, each once.
  The program computes so: printed by a program of my own (wip/tool).
  Who gets its new keys: what the law's helpers are to answer.
  What each function computes, printed by a program of my own (wip/tool) out of its run.
  Who stays and who joins gets all of its new keys.
  The law's helpers answer so; the law on who gets its new keys.
  The law on who gets its new keys.
  The program computes so: printed by a program of my own (wip/tool).
  No conditions. Own text, for the claims about coterie.
-/
import Derived.RangeFuncMany
import Derived.RangeFuncBox
import Derived.OwnWalkIn
import Derived.RangeFuncKeeps
import Derived.RangeFuncLeaves
import Derived.RangeFuncCalls
import Derived.Shelf.Abstract
import Derived.WalkKit
import Derived.TacticsInMore
import Derived.LoopNIn
import Derived.LoopIn
import Derived.Maps.AppendAt
import Derived.RegionIn
import Derived.Shelf.RegionOpen
import Derived.Test.YtplmbkgjaobhgaaDoorPartD

section
namespace Go.Proofs.YtplmbkgjaobhgaaDoor
open Go Go.Co Go.Co.N Go.Proofs
noncomputable def L_key_Good : List (Nat × LD) := []
noncomputable def Ls_key_Good : List (Nat × List (Nat × LD)) := []
noncomputable def B_key_Good : Bodies := []
theorem run_key_Good (x : denL [(.st .key)]) : run [] L_key_Good Ls_key_Good B_key_Good Tryd.f88 [(.st .key)] [.bool] x = g_key_Good x := by kernel_rfl
theorem ok_key_Good : ConOK Tryd.prog 88 c_key_Good := con_ok (ConsOK.nil) L_key_Good Ls_key_Good (B := B_key_Good) (BodiesOK.nil) Tryd.func88 rfl fun x y hf h => (run_key_Good x).trans (eq_key_Good x y hf h)
noncomputable def L_ref02_Good : List (Nat × LD) := []
noncomputable def Ls_ref02_Good : List (Nat × List (Nat × LD)) := []
noncomputable def B_ref02_Good : Bodies := []
theorem run_ref02_Good (x : denL [(.st .key)]) : run [] L_ref02_Good Ls_ref02_Good B_ref02_Good Tryd.f69 [(.st .key)] [.bool] x = g_ref02_Good x := by kernel_rfl
theorem ok_ref02_Good : ConOK Tryd.prog 69 c_ref02_Good := con_ok (ConsOK.nil) L_ref02_Good Ls_ref02_Good (B := B_ref02_Good) (BodiesOK.nil) Tryd.func69 rfl fun x y hf h => (run_ref02_Good x).trans (eq_ref02_Good x y hf h)
noncomputable def L_ref02_Ahead : List (Nat × LD) := [(6, ⟨⟨[(1, .hole .i), (2, .ptr 0 []), (4, .ptr 1 []), (6, .hole .i)], [(0, (.st .key), .hole (.st .key)), (1, (.st .key), .hole (.st .key))], []⟩, [(.exit 0, ⟨[(2, .ptr 0 []), (4, .ptr 1 [])], [(0, (.st .key), .hole (.st .key)), (1, (.st .key), .hole (.st .key))], []⟩)], 10⟩)]
noncomputable def Ls_ref02_Ahead : List (Nat × List (Nat × LD)) := []
noncomputable def B_ref02_Ahead : Bodies := []
theorem run_ref02_Ahead (x : denL [(.st .key), .i]) : run [(69, c_ref02_Good)] L_ref02_Ahead Ls_ref02_Ahead B_ref02_Ahead Tryd.f41 [(.st .key), .i] [(.st .key), .i] x = g_ref02_Ahead x := by kernel_rfl
theorem ok_ref02_Ahead : ConOK Tryd.prog 41 c_ref02_Ahead := con_ok (ConsOK.cons ok_ref02_Good (ConsOK.nil)) L_ref02_Ahead Ls_ref02_Ahead (B := B_ref02_Ahead) (BodiesOK.nil) Tryd.func41 rfl fun x y hf h => (run_ref02_Ahead x).trans (eq_ref02_Ahead x y hf h)
noncomputable def L_ref02_Gives : List (Nat × LD) := []
noncomputable def Ls_ref02_Gives : List (Nat × List (Nat × LD)) := []
noncomputable def B_ref02_Gives : Bodies := []
theorem run_ref02_Gives (x : denL [(.st .key), (.st .key)]) : run [(69, c_ref02_Good)] L_ref02_Gives Ls_ref02_Gives B_ref02_Gives Tryd.f92 [(.st .key), (.st .key)] [.bool] x = g_ref02_Gives x := by kernel_rfl
theorem ok_ref02_Gives : ConOK Tryd.prog 92 c_ref02_Gives := con_ok (ConsOK.cons ok_ref02_Good (ConsOK.nil)) L_ref02_Gives Ls_ref02_Gives (B := B_ref02_Gives) (BodiesOK.nil) Tryd.func92 rfl fun x y hf h => (run_ref02_Gives x).trans (eq_ref02_Gives x y hf h)
noncomputable def L_key_Ahead : List (Nat × LD) := []
noncomputable def Ls_key_Ahead : List (Nat × List (Nat × LD)) := []
noncomputable def B_key_Ahead : Bodies := []
theorem run_key_Ahead (x : denL [(.st .key), .i]) : run [(88, c_key_Good)] L_key_Ahead Ls_key_Ahead B_key_Ahead Tryd.f85 [(.st .key), .i] [(.st .key), .i] x = g_key_Ahead x := by kernel_rfl
theorem ok_key_Ahead : ConOK Tryd.prog 85 c_key_Ahead := con_ok (ConsOK.cons ok_key_Good (ConsOK.nil)) L_key_Ahead Ls_key_Ahead (B := B_key_Ahead) (BodiesOK.nil) Tryd.func85 rfl fun x y hf h => (run_key_Ahead x).trans (eq_key_Ahead x y hf h)
noncomputable def L_key_Seal : List (Nat × LD) := []
noncomputable def Ls_key_Seal : List (Nat × List (Nat × LD)) := []
noncomputable def B_key_Seal : Bodies := []
theorem run_key_Seal (x : denL [(.st .key), (.st .key)]) : run [(88, c_key_Good)] L_key_Seal Ls_key_Seal B_key_Seal Tryd.f63 [(.st .key), (.st .key)] [(.st .box), .i] x = g_key_Seal x := by kernel_rfl
theorem ok_key_Seal : ConOK Tryd.prog 63 c_key_Seal := con_ok (ConsOK.cons ok_key_Good (ConsOK.nil)) L_key_Seal Ls_key_Seal (B := B_key_Seal) (BodiesOK.nil) Tryd.func63 rfl fun x y hf h => (run_key_Seal x).trans (eq_key_Seal x y hf h)
noncomputable def L_ref02_GoodBox : List (Nat × LD) := []
noncomputable def Ls_ref02_GoodBox : List (Nat × List (Nat × LD)) := []
noncomputable def B_ref02_GoodBox : Bodies := []
theorem run_ref02_GoodBox (x : denL [(.st .box)]) : run [(69, c_ref02_Good)] L_ref02_GoodBox Ls_ref02_GoodBox B_ref02_GoodBox Tryd.f91 [(.st .box)] [.bool] x = g_ref02_GoodBox x := by kernel_rfl
theorem ok_ref02_GoodBox : ConOK Tryd.prog 91 c_ref02_GoodBox := con_ok (ConsOK.cons ok_ref02_Good (ConsOK.nil)) L_ref02_GoodBox Ls_ref02_GoodBox (B := B_ref02_GoodBox) (BodiesOK.nil) Tryd.func91 rfl fun x y hf h => (run_ref02_GoodBox x).trans (eq_ref02_GoodBox x y hf h)
noncomputable def L_ref02_Open : List (Nat × LD) := []
noncomputable def Ls_ref02_Open : List (Nat × List (Nat × LD)) := []
noncomputable def B_ref02_Open : Bodies := []
theorem run_ref02_Open (x : denL [(.st .box), (.st .key)]) : run [(91, c_ref02_GoodBox), (69, c_ref02_Good), (92, c_ref02_Gives)] L_ref02_Open Ls_ref02_Open B_ref02_Open Tryd.f68 [(.st .box), (.st .key)] [(.st .key), .i] x = g_ref02_Open x := by kernel_rfl
theorem ok_ref02_Open : ConOK Tryd.prog 68 c_ref02_Open := con_ok (ConsOK.cons ok_ref02_GoodBox (ConsOK.cons ok_ref02_Good (ConsOK.cons ok_ref02_Gives (ConsOK.nil)))) L_ref02_Open Ls_ref02_Open (B := B_ref02_Open) (BodiesOK.nil) Tryd.func68 rfl fun x y hf h => (run_ref02_Open x).trans (eq_ref02_Open x y hf h)
noncomputable def L_ratchet_Check : List (Nat × LD) := [(3, ⟨⟨[(3, .mp 1), (7, .hole (.arr 21 (.st .key))), (8, .hole .i)], [], [(1, .i, .i)]⟩, [(.ret, ⟨[(2, .hole .i)], [], []⟩), (.exit 0, ⟨[], [], []⟩)], 11⟩)]
noncomputable def Ls_ratchet_Check : List (Nat × List (Nat × LD)) := []
noncomputable def B_ratchet_Check : Bodies := []
theorem run_ratchet_Check (x : denL [(.arr 21 (.st .key))]) : run [(88, c_key_Good)] L_ratchet_Check Ls_ratchet_Check B_ratchet_Check Tryd.f79 [(.arr 21 (.st .key))] [.i] x = g_ratchet_Check x := by kernel_rfl
theorem ok_ratchet_Check : ConOK Tryd.prog 79 c_ratchet_Check := con_ok (ConsOK.cons ok_key_Good (ConsOK.nil)) L_ratchet_Check Ls_ratchet_Check (B := B_ratchet_Check) (BodiesOK.nil) Tryd.func79 rfl fun x y hf h => (run_ratchet_Check x).trans (eq_ratchet_Check x y hf h)
noncomputable def L_ref10_Check : List (Nat × LD) := [(7, ⟨⟨[(1, .ptr 0 []), (3, .hole .i), (4, .hole .i)], [(0, (.arr 21 (.st .key)), .hole (.arr 21 (.st .key)))], []⟩, [(.ret, ⟨[(2, .hole .i)], [], []⟩), (.exit 2, ⟨[(1, .ptr 0 []), (3, .hole .i)], [(0, (.arr 21 (.st .key)), .hole (.arr 21 (.st .key)))], []⟩)], 10⟩), (2, ⟨⟨[(1, .ptr 0 []), (3, .hole .i)], [(0, (.arr 21 (.st .key)), .hole (.arr 21 (.st .key)))], []⟩, [(.ret, ⟨[(2, .hole .i)], [], []⟩), (.exit 0, ⟨[], [], []⟩)], 20⟩)]
noncomputable def Ls_ref10_Check : List (Nat × List (Nat × LD)) := []
noncomputable def B_ref10_Check : Bodies := []
theorem run_ref10_Check (x : denL [(.arr 21 (.st .key))]) : run [(69, c_ref02_Good)] L_ref10_Check Ls_ref10_Check B_ref10_Check Tryd.f45 [(.arr 21 (.st .key))] [.i] x = g_ref10_Check x := by kernel_rfl
theorem ok_ref10_Check : ConOK Tryd.prog 45 c_ref10_Check := con_ok (ConsOK.cons ok_ref02_Good (ConsOK.nil)) L_ref10_Check Ls_ref10_Check (B := B_ref10_Check) (BodiesOK.nil) Tryd.func45 rfl fun x y hf h => (run_ref10_Check x).trans (eq_ref10_Check x y hf h)
noncomputable def L_ratchet_free : List (Nat × LD) := [(6, ⟨⟨[(1, .hole .i), (2, .hole .i), (19, .hole (.arr 21 (.st .key))), (20, .hole .i)], [], []⟩, [(.ret, ⟨[(6, .hole .bool)], [], []⟩), (.exit 0, ⟨[], [], []⟩)], 11⟩)]
noncomputable def Ls_ratchet_free : List (Nat × List (Nat × LD)) := []
noncomputable def B_ratchet_free : Bodies := []
theorem run_ratchet_free (x : denL [(.arr 21 (.st .key)), .i, .i]) : run [] L_ratchet_free Ls_ratchet_free B_ratchet_free Tryd.f84 [(.arr 21 (.st .key)), .i, .i] [.bool] x = g_ratchet_free x := by kernel_rfl
theorem ok_ratchet_free : ConOK Tryd.prog 84 c_ratchet_free := con_ok (ConsOK.nil) L_ratchet_free Ls_ratchet_free (B := B_ratchet_free) (BodiesOK.nil) Tryd.func84 rfl fun x y hf h => (run_ratchet_free x).trans (eq_ratchet_free x y hf h)
noncomputable def L_ratchet_LeafAt : List (Nat × LD) := []
noncomputable def Ls_ratchet_LeafAt : List (Nat × List (Nat × LD)) := []
noncomputable def B_ratchet_LeafAt : Bodies := []
theorem run_ratchet_LeafAt (x : denL [(.st .entry), .i]) : run [(85, c_key_Ahead)] L_ratchet_LeafAt Ls_ratchet_LeafAt B_ratchet_LeafAt Tryd.f90 [(.st .entry), .i] [(.st .key), .i] x = g_ratchet_LeafAt x := by kernel_rfl
theorem ok_ratchet_LeafAt : ConOK Tryd.prog 90 c_ratchet_LeafAt := con_ok (ConsOK.cons ok_key_Ahead (ConsOK.nil)) L_ratchet_LeafAt Ls_ratchet_LeafAt (B := B_ratchet_LeafAt) (BodiesOK.nil) Tryd.func90 rfl fun x y hf h => (run_ratchet_LeafAt x).trans (eq_ratchet_LeafAt x y hf h)
noncomputable def L_ref10_LeafAt : List (Nat × LD) := []
noncomputable def Ls_ref10_LeafAt : List (Nat × List (Nat × LD)) := []
noncomputable def B_ref10_LeafAt : Bodies := []
theorem run_ref10_LeafAt (x : denL [(.st .entry), .i]) : run [] L_ref10_LeafAt Ls_ref10_LeafAt B_ref10_LeafAt Tryd.f43 [(.st .entry), .i] [(.st .key), .i] x = g_ref10_LeafAt x := by kernel_rfl
theorem ok_ref10_LeafAt : ConOK Tryd.prog 43 c_ref10_LeafAt := con_ok (ConsOK.nil) L_ref10_LeafAt Ls_ref10_LeafAt (B := B_ref10_LeafAt) (BodiesOK.nil) Tryd.func43 rfl fun x y hf h => (run_ref10_LeafAt x).trans (eq_ref10_LeafAt x y hf h)
noncomputable def L_bits_OnesCount32 : List (Nat × LD) := []
noncomputable def Ls_bits_OnesCount32 : List (Nat × List (Nat × LD)) := []
noncomputable def B_bits_OnesCount32 : Bodies := []
theorem run_bits_OnesCount32 (x : denL [(.int .u32)]) : run [] L_bits_OnesCount32 Ls_bits_OnesCount32 B_bits_OnesCount32 Tryd.f59 [(.int .u32)] [.i] x = g_bits_OnesCount32 x := by kernel_rfl
theorem ok_bits_OnesCount32 : ConOK Tryd.prog 59 c_bits_OnesCount32 := con_ok (ConsOK.nil) L_bits_OnesCount32 Ls_bits_OnesCount32 (B := B_bits_OnesCount32) (BodiesOK.nil) Tryd.func59 rfl fun x y hf h => (run_bits_OnesCount32 x).trans (eq_bits_OnesCount32 x y hf h)
noncomputable def L_ratchet_Turn : List (Nat × LD) := [(8, ⟨⟨[(1, .hole (.int .u32)), (2, .hole .i), (3, .ptr 0 []), (6, .ptr 1 []), (31, .hole .i)], [(0, (.arr 21 (.st .key)), .hole (.arr 21 (.st .key))), (1, (.arr 21 (.st .key)), .hole (.arr 21 (.st .key)))], []⟩, [(.ret, ⟨[(6, .ptr 1 []), (7, .hole .i), (8, .hole .i)], [(1, (.arr 21 (.st .key)), .hole (.arr 21 (.st .key)))], []⟩), (.exit 1, ⟨[(2, .hole .i), (3, .ptr 0 []), (6, .ptr 1 [])], [(0, (.arr 21 (.st .key)), .hole (.arr 21 (.st .key))), (1, (.arr 21 (.st .key)), .hole (.arr 21 (.st .key)))], []⟩)], 11⟩)]
noncomputable def Ls_ratchet_Turn : List (Nat × List (Nat × LD)) := []
noncomputable def B_ratchet_Turn : Bodies := []
theorem run_ratchet_Turn (x : denL [(.arr 21 (.st .key)), (.int .u32), .i]) : run [(79, c_ratchet_Check), (59, c_bits_OnesCount32), (84, c_ratchet_free), (85, c_key_Ahead)] L_ratchet_Turn Ls_ratchet_Turn B_ratchet_Turn Tryd.f60 [(.arr 21 (.st .key)), (.int .u32), .i] [(.arr 21 (.st .key)), .i, .i] x = g_ratchet_Turn x := by kernel_rfl
theorem ok_ratchet_Turn : ConOK Tryd.prog 60 c_ratchet_Turn := con_ok (ConsOK.cons ok_ratchet_Check (ConsOK.cons ok_bits_OnesCount32 (ConsOK.cons ok_ratchet_free (ConsOK.cons ok_key_Ahead (ConsOK.nil))))) L_ratchet_Turn Ls_ratchet_Turn (B := B_ratchet_Turn) (BodiesOK.nil) Tryd.func60 rfl fun x y hf h => (run_ratchet_Turn x).trans (eq_ratchet_Turn x y hf h)
noncomputable def L_ref01_In : List (Nat × LD) := [(4, ⟨⟨[(0, .hole (.int .u32)), (1, .hole .i), (5, .hole .i)], [], []⟩, [(.exit 0, ⟨[(0, .hole (.int .u32))], [], []⟩)], 10⟩)]
noncomputable def Ls_ref01_In : List (Nat × List (Nat × LD)) := []
noncomputable def B_ref01_In : Bodies := []
theorem run_ref01_In (x : denL [(.int .u32), .i]) : run [] L_ref01_In Ls_ref01_In B_ref01_In Tryd.f24 [(.int .u32), .i] [.bool] x = g_ref01_In x := by kernel_rfl
theorem ok_ref01_In : ConOK Tryd.prog 24 c_ref01_In := con_ok (ConsOK.nil) L_ref01_In Ls_ref01_In (B := B_ref01_In) (BodiesOK.nil) Tryd.func24 rfl fun x y hf h => (run_ref01_In x).trans (eq_ref01_In x y hf h)
noncomputable def L_ref10_count : List (Nat × LD) := [(3, ⟨⟨[(0, .hole (.int .u32)), (3, .hole .i), (4, .hole .i)], [], []⟩, [(.exit 0, ⟨[(3, .hole .i)], [], []⟩)], 10⟩)]
noncomputable def Ls_ref10_count : List (Nat × List (Nat × LD)) := []
noncomputable def B_ref10_count : Bodies := []
theorem run_ref10_count (x : denL [(.int .u32)]) : run [(24, c_ref01_In)] L_ref10_count Ls_ref10_count B_ref10_count Tryd.f94 [(.int .u32)] [.i] x = g_ref10_count x := by kernel_rfl
theorem ok_ref10_count : ConOK Tryd.prog 94 c_ref10_count := con_ok (ConsOK.cons ok_ref01_In (ConsOK.nil)) L_ref10_count Ls_ref10_count (B := B_ref10_count) (BodiesOK.nil) Tryd.func94 rfl fun x y hf h => (run_ref10_count x).trans (eq_ref10_count x y hf h)
noncomputable def L_ref10_Turn : List (Nat × LD) := [(4, ⟨⟨[(1, .hole (.int .u32)), (2, .hole .i), (3, .ptr 0 []), (6, .ptr 1 []), (9, .hole .i)], [(0, (.arr 21 (.st .key)), .hole (.arr 21 (.st .key))), (1, (.arr 21 (.st .key)), .hole (.arr 21 (.st .key)))], []⟩, [(.ret, ⟨[(6, .ptr 1 []), (7, .hole .i), (8, .hole .i)], [(1, (.arr 21 (.st .key)), .hole (.arr 21 (.st .key)))], []⟩), (.exit 0, ⟨[(1, .hole (.int .u32)), (2, .hole .i), (3, .ptr 0 []), (6, .ptr 1 [])], [(0, (.arr 21 (.st .key)), .hole (.arr 21 (.st .key))), (1, (.arr 21 (.st .key)), .hole (.arr 21 (.st .key)))], []⟩)], 10⟩), (12, ⟨⟨[(1, .hole (.int .u32)), (2, .hole .i), (3, .ptr 0 []), (6, .ptr 1 []), (10, .hole .i), (11, .hole .i)], [(0, (.arr 21 (.st .key)), .hole (.arr 21 (.st .key))), (1, (.arr 21 (.st .key)), .hole (.arr 21 (.st .key)))], []⟩, [(.ret, ⟨[(6, .ptr 1 []), (7, .hole .i), (8, .hole .i)], [(1, (.arr 21 (.st .key)), .hole (.arr 21 (.st .key)))], []⟩), (.exit 2, ⟨[(1, .hole (.int .u32)), (2, .hole .i), (3, .ptr 0 []), (6, .ptr 1 [])], [(0, (.arr 21 (.st .key)), .hole (.arr 21 (.st .key))), (1, (.arr 21 (.st .key)), .hole (.arr 21 (.st .key)))], []⟩)], 10⟩), (17, ⟨⟨[(1, .hole (.int .u32)), (2, .hole .i), (3, .ptr 0 []), (6, .ptr 1 []), (12, .hole .i)], [(0, (.arr 21 (.st .key)), .hole (.arr 21 (.st .key))), (1, (.arr 21 (.st .key)), .hole (.arr 21 (.st .key)))], []⟩, [(.ret, ⟨[(6, .ptr 1 []), (7, .hole .i), (8, .hole .i)], [(1, (.arr 21 (.st .key)), .hole (.arr 21 (.st .key)))], []⟩), (.exit 4, ⟨[(2, .hole .i), (3, .ptr 0 []), (6, .ptr 1 [])], [(0, (.arr 21 (.st .key)), .hole (.arr 21 (.st .key))), (1, (.arr 21 (.st .key)), .hole (.arr 21 (.st .key)))], []⟩)], 11⟩)]
noncomputable def Ls_ref10_Turn : List (Nat × List (Nat × LD)) := []
noncomputable def B_ref10_Turn : Bodies := []
theorem run_ref10_Turn (x : denL [(.arr 21 (.st .key)), (.int .u32), .i]) : run [(45, c_ref10_Check), (24, c_ref01_In), (94, c_ref10_count), (41, c_ref02_Ahead)] L_ref10_Turn Ls_ref10_Turn B_ref10_Turn Tryd.f74 [(.arr 21 (.st .key)), (.int .u32), .i] [(.arr 21 (.st .key)), .i, .i] x = g_ref10_Turn x := by kernel_rfl
theorem ok_ref10_Turn : ConOK Tryd.prog 74 c_ref10_Turn := con_ok (ConsOK.cons ok_ref10_Check (ConsOK.cons ok_ref01_In (ConsOK.cons ok_ref10_count (ConsOK.cons ok_ref02_Ahead (ConsOK.nil))))) L_ref10_Turn Ls_ref10_Turn (B := B_ref10_Turn) (BodiesOK.nil) Tryd.func74 rfl fun x y hf h => (run_ref10_Turn x).trans (eq_ref10_Turn x y hf h)
noncomputable def L_ref01_Node : List (Nat × LD) := []
noncomputable def Ls_ref01_Node : List (Nat × List (Nat × LD)) := []
noncomputable def B_ref01_Node : Bodies := []
theorem run_ref01_Node (x : denL [.i]) : run [] L_ref01_Node Ls_ref01_Node B_ref01_Node Tryd.f42 [.i] [.bool] x = g_ref01_Node x := by kernel_rfl
theorem ok_ref01_Node : ConOK Tryd.prog 42 c_ref01_Node := con_ok (ConsOK.nil) L_ref01_Node Ls_ref01_Node (B := B_ref01_Node) (BodiesOK.nil) Tryd.func42 rfl fun x y hf h => (run_ref01_Node x).trans (eq_ref01_Node x y hf h)
noncomputable def L_ref01_Child : List (Nat × LD) := []
noncomputable def Ls_ref01_Child : List (Nat × List (Nat × LD)) := []
noncomputable def B_ref01_Child : Bodies := []
theorem run_ref01_Child (x : denL [.i, .i]) : run [] L_ref01_Child Ls_ref01_Child B_ref01_Child Tryd.f70 [.i, .i] [.i] x = g_ref01_Child x := by kernel_rfl
theorem ok_ref01_Child : ConOK Tryd.prog 70 c_ref01_Child := con_ok (ConsOK.nil) L_ref01_Child Ls_ref01_Child (B := B_ref01_Child) (BodiesOK.nil) Tryd.func70 rfl fun x y hf h => (run_ref01_Child x).trans (eq_ref01_Child x y hf h)
noncomputable def L_ref01_Parent : List (Nat × LD) := [(7, ⟨⟨[(0, .hole .i), (3, .hole .i), (4, .hole .i)], [], []⟩, [(.ret, ⟨[(2, .hole .i)], [], []⟩), (.exit 2, ⟨[(0, .hole .i), (3, .hole .i)], [], []⟩)], 10⟩), (4, ⟨⟨[(0, .hole .i), (3, .hole .i)], [], []⟩, [(.ret, ⟨[(2, .hole .i)], [], []⟩), (.exit 0, ⟨[], [], []⟩)], 20⟩)]
noncomputable def Ls_ref01_Parent : List (Nat × List (Nat × LD)) := []
noncomputable def B_ref01_Parent : Bodies := []
theorem run_ref01_Parent (x : denL [.i]) : run [(70, c_ref01_Child)] L_ref01_Parent Ls_ref01_Parent B_ref01_Parent Tryd.f44 [.i] [.i] x = g_ref01_Parent x := by kernel_rfl
theorem ok_ref01_Parent : ConOK Tryd.prog 44 c_ref01_Parent := con_ok (ConsOK.cons ok_ref01_Child (ConsOK.nil)) L_ref01_Parent Ls_ref01_Parent (B := B_ref01_Parent) (BodiesOK.nil) Tryd.func44 rfl fun x y hf h => (run_ref01_Parent x).trans (eq_ref01_Parent x y hf h)
noncomputable def L_ref01_Leaf : List (Nat × LD) := []
noncomputable def Ls_ref01_Leaf : List (Nat × List (Nat × LD)) := []
noncomputable def B_ref01_Leaf : Bodies := []
theorem run_ref01_Leaf (x : denL [.i]) : run [] L_ref01_Leaf Ls_ref01_Leaf B_ref01_Leaf Tryd.f20 [.i] [.i] x = g_ref01_Leaf x := by kernel_rfl
theorem ok_ref01_Leaf : ConOK Tryd.prog 20 c_ref01_Leaf := con_ok (ConsOK.nil) L_ref01_Leaf Ls_ref01_Leaf (B := B_ref01_Leaf) (BodiesOK.nil) Tryd.func20 rfl fun x y hf h => (run_ref01_Leaf x).trans (eq_ref01_Leaf x y hf h)
noncomputable def L_ref01_Path : List (Nat × LD) := [(6, ⟨⟨[(2, .ptr 0 []), (4, .ptr 1 []), (5, .hole .i), (6, .hole .i)], [(0, (.arr 3 .i), .hole (.arr 3 .i)), (1, (.arr 3 .i), .hole (.arr 3 .i))], []⟩, [(.exit 0, ⟨[(2, .ptr 0 []), (4, .ptr 1 [])], [(0, (.arr 3 .i), .hole (.arr 3 .i)), (1, (.arr 3 .i), .hole (.arr 3 .i))], []⟩)], 10⟩)]
noncomputable def Ls_ref01_Path : List (Nat × List (Nat × LD)) := []
noncomputable def B_ref01_Path : Bodies := []
theorem run_ref01_Path (x : denL [.i]) : run [(20, c_ref01_Leaf), (44, c_ref01_Parent)] L_ref01_Path Ls_ref01_Path B_ref01_Path Tryd.f21 [.i] [(.arr 3 .i), .bool] x = g_ref01_Path x := by kernel_rfl
theorem ok_ref01_Path : ConOK Tryd.prog 21 c_ref01_Path := con_ok (ConsOK.cons ok_ref01_Leaf (ConsOK.cons ok_ref01_Parent (ConsOK.nil))) L_ref01_Path Ls_ref01_Path (B := B_ref01_Path) (BodiesOK.nil) Tryd.func21 rfl fun x y hf h => (run_ref01_Path x).trans (eq_ref01_Path x y hf h)
noncomputable def L_ref01_Below : List (Nat × LD) := [(3, ⟨⟨[(0, .hole .i), (1, .hole .i)], [], []⟩, [(.exit 0, ⟨[(0, .hole .i), (1, .hole .i)], [], []⟩)], 10⟩)]
noncomputable def Ls_ref01_Below : List (Nat × List (Nat × LD)) := []
noncomputable def B_ref01_Below : Bodies := []
theorem run_ref01_Below (x : denL [.i, .i]) : run [(42, c_ref01_Node), (44, c_ref01_Parent)] L_ref01_Below Ls_ref01_Below B_ref01_Below Tryd.f55 [.i, .i] [.bool] x = g_ref01_Below x := by kernel_rfl
theorem ok_ref01_Below : ConOK Tryd.prog 55 c_ref01_Below := con_ok (ConsOK.cons ok_ref01_Node (ConsOK.cons ok_ref01_Parent (ConsOK.nil))) L_ref01_Below Ls_ref01_Below (B := B_ref01_Below) (BodiesOK.nil) Tryd.func55 rfl fun x y hf h => (run_ref01_Below x).trans (eq_ref01_Below x y hf h)
noncomputable def L_shape_first : List (Nat × LD) := []
noncomputable def Ls_shape_first : List (Nat × List (Nat × LD)) := []
noncomputable def B_shape_first : Bodies := []
theorem run_shape_first (x : denL [.i]) : run [] L_shape_first Ls_shape_first B_shape_first Tryd.f78 [.i] [.i] x = g_shape_first x := by kernel_rfl
theorem ok_shape_first : ConOK Tryd.prog 78 c_shape_first := con_ok (ConsOK.nil) L_shape_first Ls_shape_first (B := B_shape_first) (BodiesOK.nil) Tryd.func78 rfl fun x y hf h => (run_shape_first x).trans (eq_shape_first x y hf h)
noncomputable def L_shape_Level : List (Nat × LD) := [(5, ⟨⟨[(0, .hole .i), (3, .hole .i)], [], []⟩, [(.ret, ⟨[(2, .hole .i)], [], []⟩)], 10⟩)]
noncomputable def Ls_shape_Level : List (Nat × List (Nat × LD)) := []
noncomputable def B_shape_Level : Bodies := []
theorem run_shape_Level (x : denL [.i]) : run [(78, c_shape_first)] L_shape_Level Ls_shape_Level B_shape_Level Tryd.f53 [.i] [.i] x = g_shape_Level x := by kernel_rfl
theorem ok_shape_Level : ConOK Tryd.prog 53 c_shape_Level := con_ok (ConsOK.cons ok_shape_first (ConsOK.nil)) L_shape_Level Ls_shape_Level (B := B_shape_Level) (BodiesOK.nil) Tryd.func53 rfl fun x y hf h => (run_shape_Level x).trans (eq_shape_Level x y hf h)
noncomputable def L_shape_span : List (Nat × LD) := []
noncomputable def Ls_shape_span : List (Nat × List (Nat × LD)) := []
noncomputable def B_shape_span : Bodies := []
theorem run_shape_span (x : denL [.i]) : run [(53, c_shape_Level), (78, c_shape_first)] L_shape_span Ls_shape_span B_shape_span Tryd.f54 [.i] [.i, .i] x = g_shape_span x := by kernel_rfl
theorem ok_shape_span : ConOK Tryd.prog 54 c_shape_span := con_ok (ConsOK.cons ok_shape_Level (ConsOK.cons ok_shape_first (ConsOK.nil))) L_shape_span Ls_shape_span (B := B_shape_span) (BodiesOK.nil) Tryd.func54 rfl fun x y hf h => (run_shape_span x).trans (eq_shape_span x y hf h)
noncomputable def L_shape_Mask : List (Nat × LD) := []
noncomputable def Ls_shape_Mask : List (Nat × List (Nat × LD)) := []
noncomputable def B_shape_Mask : Bodies := []
theorem run_shape_Mask (x : denL [.i]) : run [(53, c_shape_Level), (54, c_shape_span)] L_shape_Mask Ls_shape_Mask B_shape_Mask Tryd.f34 [.i] [(.int .u64)] x = g_shape_Mask x := by kernel_rfl
theorem ok_shape_Mask : ConOK Tryd.prog 34 c_shape_Mask := con_ok (ConsOK.cons ok_shape_Level (ConsOK.cons ok_shape_span (ConsOK.nil))) L_shape_Mask Ls_shape_Mask (B := B_shape_Mask) (BodiesOK.nil) Tryd.func34 rfl fun x y hf h => (run_shape_Mask x).trans (eq_shape_Mask x y hf h)
noncomputable def L_shape_Slot : List (Nat × LD) := []
noncomputable def Ls_shape_Slot : List (Nat × List (Nat × LD)) := []
noncomputable def B_shape_Slot : Bodies := []
theorem run_shape_Slot (x : denL [.i]) : run [] L_shape_Slot Ls_shape_Slot B_shape_Slot Tryd.f89 [.i] [.i] x = g_shape_Slot x := by kernel_rfl
theorem ok_shape_Slot : ConOK Tryd.prog 89 c_shape_Slot := con_ok (ConsOK.nil) L_shape_Slot Ls_shape_Slot (B := B_shape_Slot) (BodiesOK.nil) Tryd.func89 rfl fun x y hf h => (run_shape_Slot x).trans (eq_shape_Slot x y hf h)
noncomputable def L_shape_Child : List (Nat × LD) := []
noncomputable def Ls_shape_Child : List (Nat × List (Nat × LD)) := []
noncomputable def B_shape_Child : Bodies := []
theorem run_shape_Child (x : denL [.i, .i]) : run [] L_shape_Child Ls_shape_Child B_shape_Child Tryd.f66 [.i, .i] [.i] x = g_shape_Child x := by kernel_rfl
theorem ok_shape_Child : ConOK Tryd.prog 66 c_shape_Child := con_ok (ConsOK.nil) L_shape_Child Ls_shape_Child (B := B_shape_Child) (BodiesOK.nil) Tryd.func66 rfl fun x y hf h => (run_shape_Child x).trans (eq_shape_Child x y hf h)
noncomputable def L_shape_Leaf : List (Nat × LD) := []
noncomputable def Ls_shape_Leaf : List (Nat × List (Nat × LD)) := []
noncomputable def B_shape_Leaf : Bodies := []
theorem run_shape_Leaf (x : denL [.i]) : run [] L_shape_Leaf Ls_shape_Leaf B_shape_Leaf Tryd.f35 [.i] [.i] x = g_shape_Leaf x := by kernel_rfl
theorem ok_shape_Leaf : ConOK Tryd.prog 35 c_shape_Leaf := con_ok (ConsOK.nil) L_shape_Leaf Ls_shape_Leaf (B := B_shape_Leaf) (BodiesOK.nil) Tryd.func35 rfl fun x y hf h => (run_shape_Leaf x).trans (eq_shape_Leaf x y hf h)
noncomputable def L_shape_Path : List (Nat × LD) := [(5, ⟨⟨[(0, .hole .i), (2, .ptr 0 []), (4, .ptr 1 []), (11, .hole .i)], [(0, (.arr 3 .i), .hole (.arr 3 .i)), (1, (.arr 3 .i), .hole (.arr 3 .i))], []⟩, [(.exit 0, ⟨[(2, .ptr 0 []), (4, .ptr 1 [])], [(0, (.arr 3 .i), .hole (.arr 3 .i)), (1, (.arr 3 .i), .hole (.arr 3 .i))], []⟩)], 10⟩)]
noncomputable def Ls_shape_Path : List (Nat × List (Nat × LD)) := []
noncomputable def B_shape_Path : Bodies := []
theorem run_shape_Path (x : denL [.i]) : run [(35, c_shape_Leaf), (78, c_shape_first)] L_shape_Path Ls_shape_Path B_shape_Path Tryd.f67 [.i] [(.arr 3 .i), .bool] x = g_shape_Path x := by kernel_rfl
theorem ok_shape_Path : ConOK Tryd.prog 67 c_shape_Path := con_ok (ConsOK.cons ok_shape_Leaf (ConsOK.cons ok_shape_first (ConsOK.nil))) L_shape_Path Ls_shape_Path (B := B_shape_Path) (BodiesOK.nil) Tryd.func67 rfl fun x y hf h => (run_shape_Path x).trans (eq_shape_Path x y hf h)
noncomputable def L_shape_Above : List (Nat × LD) := [(3, ⟨⟨[(0, .hole (.int .u64)), (3, .hole (.int .u32)), (5, .hole .i)], [], []⟩, [(.exit 0, ⟨[(3, .hole (.int .u32))], [], []⟩)], 10⟩)]
noncomputable def Ls_shape_Above : List (Nat × List (Nat × LD)) := []
noncomputable def B_shape_Above : Bodies := []
theorem run_shape_Above (x : denL [(.int .u64)]) : run [(34, c_shape_Mask)] L_shape_Above Ls_shape_Above B_shape_Above Tryd.f36 [(.int .u64)] [(.int .u32)] x = g_shape_Above x := by kernel_rfl
theorem ok_shape_Above : ConOK Tryd.prog 36 c_shape_Above := con_ok (ConsOK.cons ok_shape_Mask (ConsOK.nil)) L_shape_Above Ls_shape_Above (B := B_shape_Above) (BodiesOK.nil) Tryd.func36 rfl fun x y hf h => (run_shape_Above x).trans (eq_shape_Above x y hf h)
noncomputable def L_roster_right : List (Nat × LD) := []
noncomputable def Ls_roster_right : List (Nat × List (Nat × LD)) := []
noncomputable def B_roster_right : Bodies := []
theorem run_roster_right (x : denL [(.st .entry)]) : run [] L_roster_right Ls_roster_right B_roster_right Tryd.f95 [(.st .entry)] [.bool] x = g_roster_right x := by kernel_rfl
theorem ok_roster_right : ConOK Tryd.prog 95 c_roster_right := con_ok (ConsOK.nil) L_roster_right Ls_roster_right (B := B_roster_right) (BodiesOK.nil) Tryd.func95 rfl fun x y hf h => (run_roster_right x).trans (eq_roster_right x y hf h)
noncomputable def L_roster_Check : List (Nat × LD) := [(3, ⟨⟨[(3, .mp 1), (4, .mp 2), (9, .hole (.arr 64 (.st .entry))), (10, .hole .i)], [], [(1, .i, .i), (2, .i, .i)]⟩, [(.ret, ⟨[(2, .hole .i)], [], []⟩), (.exit 0, ⟨[], [], []⟩)], 11⟩)]
noncomputable def Ls_roster_Check : List (Nat × List (Nat × LD)) := []
noncomputable def B_roster_Check : Bodies := []
theorem run_roster_Check (x : denL [(.arr 64 (.st .entry))]) : run [(95, c_roster_right)] L_roster_Check Ls_roster_Check B_roster_Check Tryd.f80 [(.arr 64 (.st .entry))] [.i] x = g_roster_Check x := by kernel_rfl
theorem ok_roster_Check : ConOK Tryd.prog 80 c_roster_Check := con_ok (ConsOK.cons ok_roster_right (ConsOK.nil)) L_roster_Check Ls_roster_Check (B := B_roster_Check) (BodiesOK.nil) Tryd.func80 rfl fun x y hf h => (run_roster_Check x).trans (eq_roster_Check x y hf h)
noncomputable def L_roster_Find : List (Nat × LD) := []
noncomputable def Ls_roster_Find : List (Nat × List (Nat × LD)) := [(96, [(2, ⟨⟨[(0, .asl 0 []), (1, .fn 97 [1]), (7, .hole .i), (8, .hole .i)], [(0, (.arr 64 (.st .entry)), .hole (.arr 64 (.st .entry))), (1, .i, .hole .i)], []⟩, [(.ret, ⟨[(4, .hole .i)], [(0, (.arr 64 (.st .entry)), .hole (.arr 64 (.st .entry))), (1, .i, .hole .i)], []⟩), (.exit 0, ⟨[], [(0, (.arr 64 (.st .entry)), .hole (.arr 64 (.st .entry))), (1, .i, .hole .i)], []⟩)], 10⟩)])]
noncomputable def B_roster_Find : Bodies := [bodyLine 97 Tryd.f97, bodyLine 96 Tryd.f96]
theorem run_roster_Find (x : denL [(.arr 64 (.st .entry)), .i]) : run [] L_roster_Find Ls_roster_Find B_roster_Find Tryd.f82 [(.arr 64 (.st .entry)), .i] [.i] x = g_roster_Find x := by kernel_rfl
theorem ok_roster_Find : ConOK Tryd.prog 82 c_roster_Find := con_ok (ConsOK.nil) L_roster_Find Ls_roster_Find (B := B_roster_Find) (BodiesOK.cons Tryd.func97 rfl (BodiesOK.cons Tryd.func96 rfl (BodiesOK.nil))) Tryd.func82 rfl fun x y hf h => (run_roster_Find x).trans (eq_roster_Find x y hf h)
noncomputable def L_roster_Taken : List (Nat × LD) := [(3, ⟨⟨[(3, .hole (.int .u64)), (6, .hole (.arr 64 (.st .entry))), (7, .hole .i)], [], []⟩, [(.exit 0, ⟨[(3, .hole (.int .u64))], [], []⟩)], 11⟩)]
noncomputable def Ls_roster_Taken : List (Nat × List (Nat × LD)) := []
noncomputable def B_roster_Taken : Bodies := []
theorem run_roster_Taken (x : denL [(.arr 64 (.st .entry))]) : run [] L_roster_Taken Ls_roster_Taken B_roster_Taken Tryd.f65 [(.arr 64 (.st .entry))] [(.int .u64)] x = g_roster_Taken x := by kernel_rfl
theorem ok_roster_Taken : ConOK Tryd.prog 65 c_roster_Taken := con_ok (ConsOK.nil) L_roster_Taken Ls_roster_Taken (B := B_roster_Taken) (BodiesOK.nil) Tryd.func65 rfl fun x y hf h => (run_roster_Taken x).trans (eq_roster_Taken x y hf h)
noncomputable def L_ref09_Right : List (Nat × LD) := []
noncomputable def Ls_ref09_Right : List (Nat × List (Nat × LD)) := []
noncomputable def B_ref09_Right : Bodies := []
theorem run_ref09_Right (x : denL [(.st .entry)]) : run [] L_ref09_Right Ls_ref09_Right B_ref09_Right Tryd.f71 [(.st .entry)] [.bool] x = g_ref09_Right x := by kernel_rfl
theorem ok_ref09_Right : ConOK Tryd.prog 71 c_ref09_Right := con_ok (ConsOK.nil) L_ref09_Right Ls_ref09_Right (B := B_ref09_Right) (BodiesOK.nil) Tryd.func71 rfl fun x y hf h => (run_ref09_Right x).trans (eq_ref09_Right x y hf h)
noncomputable def L_ref09_Check : List (Nat × LD) := [(8, ⟨⟨[(1, .ptr 0 []), (3, .hole .i), (4, .hole .i)], [(0, (.arr 64 (.st .entry)), .hole (.arr 64 (.st .entry)))], []⟩, [(.ret, ⟨[(2, .hole .i)], [], []⟩), (.exit 2, ⟨[(1, .ptr 0 []), (3, .hole .i)], [(0, (.arr 64 (.st .entry)), .hole (.arr 64 (.st .entry)))], []⟩)], 10⟩), (2, ⟨⟨[(1, .ptr 0 []), (3, .hole .i)], [(0, (.arr 64 (.st .entry)), .hole (.arr 64 (.st .entry)))], []⟩, [(.ret, ⟨[(2, .hole .i)], [], []⟩), (.exit 0, ⟨[], [], []⟩)], 20⟩)]
noncomputable def Ls_ref09_Check : List (Nat × List (Nat × LD)) := []
noncomputable def B_ref09_Check : Bodies := []
theorem run_ref09_Check (x : denL [(.arr 64 (.st .entry))]) : run [(71, c_ref09_Right)] L_ref09_Check Ls_ref09_Check B_ref09_Check Tryd.f46 [(.arr 64 (.st .entry))] [.i] x = g_ref09_Check x := by kernel_rfl
theorem ok_ref09_Check : ConOK Tryd.prog 46 c_ref09_Check := con_ok (ConsOK.cons ok_ref09_Right (ConsOK.nil)) L_ref09_Check Ls_ref09_Check (B := B_ref09_Check) (BodiesOK.nil) Tryd.func46 rfl fun x y hf h => (run_ref09_Check x).trans (eq_ref09_Check x y hf h)
noncomputable def L_ref09_Find : List (Nat × LD) := [(2, ⟨⟨[(1, .hole .i), (2, .ptr 0 []), (5, .hole .i)], [(0, (.arr 64 (.st .entry)), .hole (.arr 64 (.st .entry)))], []⟩, [(.ret, ⟨[(4, .hole .i)], [], []⟩), (.exit 0, ⟨[], [], []⟩)], 10⟩)]
noncomputable def Ls_ref09_Find : List (Nat × List (Nat × LD)) := []
noncomputable def B_ref09_Find : Bodies := []
theorem run_ref09_Find (x : denL [(.arr 64 (.st .entry)), .i]) : run [] L_ref09_Find Ls_ref09_Find B_ref09_Find Tryd.f26 [(.arr 64 (.st .entry)), .i] [.i] x = g_ref09_Find x := by kernel_rfl
theorem ok_ref09_Find : ConOK Tryd.prog 26 c_ref09_Find := con_ok (ConsOK.nil) L_ref09_Find Ls_ref09_Find (B := B_ref09_Find) (BodiesOK.nil) Tryd.func26 rfl fun x y hf h => (run_ref09_Find x).trans (eq_ref09_Find x y hf h)
noncomputable def L_ref11_Start : List (Nat × LD) := [(3, ⟨⟨[(0, .ptr 0 []), (1, .ptr 1 []), (2, .hole .i)], [(0, (.st .tree), .hole (.st .tree)), (1, (.st .tree), .hole (.st .tree))], []⟩, [(.exit 0, ⟨[(0, .ptr 0 []), (1, .ptr 1 [])], [(0, (.st .tree), .hole (.st .tree)), (1, (.st .tree), .hole (.st .tree))], []⟩)], 10⟩)]
noncomputable def Ls_ref11_Start : List (Nat × List (Nat × LD)) := []
noncomputable def B_ref11_Start : Bodies := []
theorem run_ref11_Start (x : denL []) : run [] L_ref11_Start Ls_ref11_Start B_ref11_Start Tryd.f52 [] [(.st .tree)] x = g_ref11_Start x := by kernel_rfl
theorem ok_ref11_Start : ConOK Tryd.prog 52 c_ref11_Start := con_ok (ConsOK.nil) L_ref11_Start Ls_ref11_Start (B := B_ref11_Start) (BodiesOK.nil) Tryd.func52 rfl fun x y hf h => (run_ref11_Start x).trans (eq_ref11_Start x y hf h)
noncomputable def L_ref11_Check : List (Nat × LD) := [(4, ⟨⟨[(1, .ptr 0 []), (3, .hole .i)], [(0, (.st .tree), .hole (.st .tree))], []⟩, [(.ret, ⟨[(2, .hole .i)], [], []⟩), (.exit 0, ⟨[(1, .ptr 0 [])], [(0, (.st .tree), .hole (.st .tree))], []⟩)], 10⟩), (14, ⟨⟨[(1, .ptr 0 []), (4, .hole .i), (5, .hole .i)], [(0, (.st .tree), .hole (.st .tree))], []⟩, [(.ret, ⟨[(2, .hole .i)], [], []⟩), (.exit 4, ⟨[(1, .ptr 0 []), (4, .hole .i)], [(0, (.st .tree), .hole (.st .tree))], []⟩)], 10⟩), (9, ⟨⟨[(1, .ptr 0 []), (4, .hole .i)], [(0, (.st .tree), .hole (.st .tree))], []⟩, [(.ret, ⟨[(2, .hole .i)], [], []⟩), (.exit 2, ⟨[], [], []⟩)], 20⟩)]
noncomputable def Ls_ref11_Check : List (Nat × List (Nat × LD)) := []
noncomputable def B_ref11_Check : Bodies := []
theorem run_ref11_Check (x : denL [(.st .tree)]) : run [(45, c_ref10_Check), (46, c_ref09_Check)] L_ref11_Check Ls_ref11_Check B_ref11_Check Tryd.f25 [(.st .tree)] [.i] x = g_ref11_Check x := by kernel_rfl
theorem ok_ref11_Check : ConOK Tryd.prog 25 c_ref11_Check := con_ok (ConsOK.cons ok_ref10_Check (ConsOK.cons ok_ref09_Check (ConsOK.nil))) L_ref11_Check Ls_ref11_Check (B := B_ref11_Check) (BodiesOK.nil) Tryd.func25 rfl fun x y hf h => (run_ref11_Check x).trans (eq_ref11_Check x y hf h)
noncomputable def L_ref11_Of : List (Nat × LD) := []
noncomputable def Ls_ref11_Of : List (Nat × List (Nat × LD)) := []
noncomputable def B_ref11_Of : Bodies := []
theorem run_ref11_Of (x : denL [(.st .tree), .i]) : run [(42, c_ref01_Node), (43, c_ref10_LeafAt)] L_ref11_Of Ls_ref11_Of B_ref11_Of Tryd.f19 [(.st .tree), .i] [(.st .key), .i] x = g_ref11_Of x := by kernel_rfl
theorem ok_ref11_Of : ConOK Tryd.prog 19 c_ref11_Of := con_ok (ConsOK.cons ok_ref01_Node (ConsOK.cons ok_ref10_LeafAt (ConsOK.nil))) L_ref11_Of Ls_ref11_Of (B := B_ref11_Of) (BodiesOK.nil) Tryd.func19 rfl fun x y hf h => (run_ref11_Of x).trans (eq_ref11_Of x y hf h)
noncomputable def L_ref11_Below : List (Nat × LD) := [(2, ⟨⟨[(1, .hole .i), (2, .ptr 0 []), (5, .hole .i)], [(0, (.arr 64 (.st .entry)), .hole (.arr 64 (.st .entry)))], []⟩, [(.ret, ⟨[(4, .hole .bool)], [], []⟩), (.exit 0, ⟨[], [], []⟩)], 10⟩)]
noncomputable def Ls_ref11_Below : List (Nat × List (Nat × LD)) := []
noncomputable def B_ref11_Below : Bodies := []
theorem run_ref11_Below (x : denL [(.arr 64 (.st .entry)), .i]) : run [(20, c_ref01_Leaf), (55, c_ref01_Below)] L_ref11_Below Ls_ref11_Below B_ref11_Below Tryd.f76 [(.arr 64 (.st .entry)), .i] [.bool] x = g_ref11_Below x := by kernel_rfl
theorem ok_ref11_Below : ConOK Tryd.prog 76 c_ref11_Below := con_ok (ConsOK.cons ok_ref01_Leaf (ConsOK.cons ok_ref01_Below (ConsOK.nil))) L_ref11_Below Ls_ref11_Below (B := B_ref11_Below) (BodiesOK.nil) Tryd.func76 rfl fun x y hf h => (run_ref11_Below x).trans (eq_ref11_Below x y hf h)
noncomputable def L_keytree_Check : List (Nat × LD) := [(7, ⟨⟨[(1, .ptr 0 []), (3, .mp 1), (38, .hole (.arr 21 (.st .key))), (39, .hole .i)], [(0, (.st .tree), .hole (.st .tree))], [(1, .i, .i)]⟩, [(.ret, ⟨[(2, .hole .i)], [], []⟩), (.exit 0, ⟨[(1, .ptr 0 []), (3, .mp 1)], [(0, (.st .tree), .hole (.st .tree))], [(1, .i, .i)]⟩)], 11⟩), (14, ⟨⟨[(1, .ptr 0 []), (3, .mp 1), (61, .hole (.arr 64 (.st .entry))), (62, .hole .i)], [(0, (.st .tree), .hole (.st .tree))], [(1, .i, .i)]⟩, [(.ret, ⟨[(2, .hole .i)], [], []⟩), (.exit 2, ⟨[], [], []⟩)], 11⟩)]
noncomputable def Ls_keytree_Check : List (Nat × List (Nat × LD)) := []
noncomputable def B_keytree_Check : Bodies := []
theorem run_keytree_Check (x : denL [(.st .tree)]) : run [(79, c_ratchet_Check), (80, c_roster_Check)] L_keytree_Check Ls_keytree_Check B_keytree_Check Tryd.f56 [(.st .tree)] [.i] x = g_keytree_Check x := by kernel_rfl
theorem ok_keytree_Check : ConOK Tryd.prog 56 c_keytree_Check := con_ok (ConsOK.cons ok_ratchet_Check (ConsOK.cons ok_roster_Check (ConsOK.nil))) L_keytree_Check Ls_keytree_Check (B := B_keytree_Check) (BodiesOK.nil) Tryd.func56 rfl fun x y hf h => (run_keytree_Check x).trans (eq_keytree_Check x y hf h)
noncomputable def L_ref08_Places : List (Nat × LD) := [(3, ⟨⟨[(0, .hole (.int .u64)), (2, .ptr 0 []), (3, .ptr 1 []), (4, .hole .i)], [(0, (.arr 64 .bool), .hole (.arr 64 .bool)), (1, (.arr 64 .bool), .hole (.arr 64 .bool))], []⟩, [(.exit 0, ⟨[(2, .ptr 0 []), (3, .ptr 1 [])], [(0, (.arr 64 .bool), .hole (.arr 64 .bool)), (1, (.arr 64 .bool), .hole (.arr 64 .bool))], []⟩)], 10⟩)]
noncomputable def Ls_ref08_Places : List (Nat × List (Nat × LD)) := []
noncomputable def B_ref08_Places : Bodies := []
theorem run_ref08_Places (x : denL [(.int .u64)]) : run [] L_ref08_Places Ls_ref08_Places B_ref08_Places Tryd.f72 [(.int .u64)] [(.arr 64 .bool)] x = g_ref08_Places x := by kernel_rfl
theorem ok_ref08_Places : ConOK Tryd.prog 72 c_ref08_Places := con_ok (ConsOK.nil) L_ref08_Places Ls_ref08_Places (B := B_ref08_Places) (BodiesOK.nil) Tryd.func72 rfl fun x y hf h => (run_ref08_Places x).trans (eq_ref08_Places x y hf h)
noncomputable def L_ref08_Word : List (Nat × LD) := [(3, ⟨⟨[(1, .ptr 0 []), (3, .hole (.int .u64)), (4, .hole .i)], [(0, (.arr 64 .bool), .hole (.arr 64 .bool))], []⟩, [(.exit 0, ⟨[(3, .hole (.int .u64))], [], []⟩)], 10⟩)]
noncomputable def Ls_ref08_Word : List (Nat × List (Nat × LD)) := []
noncomputable def B_ref08_Word : Bodies := []
theorem run_ref08_Word (x : denL [(.arr 64 .bool)]) : run [] L_ref08_Word Ls_ref08_Word B_ref08_Word Tryd.f48 [(.arr 64 .bool)] [(.int .u64)] x = g_ref08_Word x := by kernel_rfl
theorem ok_ref08_Word : ConOK Tryd.prog 48 c_ref08_Word := con_ok (ConsOK.nil) L_ref08_Word Ls_ref08_Word (B := B_ref08_Word) (BodiesOK.nil) Tryd.func48 rfl fun x y hf h => (run_ref08_Word x).trans (eq_ref08_Word x y hf h)
noncomputable def L_ref08_List : List (Nat × LD) := [(4, ⟨⟨[(3, .ptr 0 []), (4, .row .i), (5, .hole .i)], [(0, (.arr 64 .bool), .hole (.arr 64 .bool))], []⟩, [(.exit 0, ⟨[(4, .row .i)], [], []⟩)], 13⟩)]
noncomputable def Ls_ref08_List : List (Nat × List (Nat × LD)) := []
noncomputable def B_ref08_List : Bodies := []
theorem run_ref08_List (x : denL [(.int .u64)]) : run [(72, c_ref08_Places)] L_ref08_List Ls_ref08_List B_ref08_List Tryd.f47 [(.int .u64)] [(.list .i)] x = g_ref08_List x := by kernel_rfl
theorem ok_ref08_List : ConOK Tryd.prog 47 c_ref08_List := con_ok (ConsOK.cons ok_ref08_Places (ConsOK.nil)) L_ref08_List Ls_ref08_List (B := B_ref08_List) (BodiesOK.nil) Tryd.func47 rfl fun x y hf h => (run_ref08_List x).trans (eq_ref08_List x y hf h)
noncomputable def L_ref08_Count : List (Nat × LD) := []
noncomputable def Ls_ref08_Count : List (Nat × List (Nat × LD)) := []
noncomputable def B_ref08_Count : Bodies := []
theorem run_ref08_Count (x : denL [(.int .u64)]) : run [(47, c_ref08_List)] L_ref08_Count Ls_ref08_Count B_ref08_Count Tryd.f27 [(.int .u64)] [.i] x = g_ref08_Count x := by kernel_rfl
theorem ok_ref08_Count : ConOK Tryd.prog 27 c_ref08_Count := con_ok (ConsOK.cons ok_ref08_List (ConsOK.nil)) L_ref08_Count Ls_ref08_Count (B := B_ref08_Count) (BodiesOK.nil) Tryd.func27 rfl fun x y hf h => (run_ref08_Count x).trans (eq_ref08_Count x y hf h)
noncomputable def L_ref09_Taken : List (Nat × LD) := [(3, ⟨⟨[(1, .ptr 0 []), (3, .ptr 1 []), (4, .hole .i)], [(0, (.arr 64 (.st .entry)), .hole (.arr 64 (.st .entry))), (1, (.arr 64 .bool), .hole (.arr 64 .bool))], []⟩, [(.exit 0, ⟨[(3, .ptr 1 [])], [(1, (.arr 64 .bool), .hole (.arr 64 .bool))], []⟩)], 10⟩)]
noncomputable def Ls_ref09_Taken : List (Nat × List (Nat × LD)) := []
noncomputable def B_ref09_Taken : Bodies := []
theorem run_ref09_Taken (x : denL [(.arr 64 (.st .entry))]) : run [(48, c_ref08_Word)] L_ref09_Taken Ls_ref09_Taken B_ref09_Taken Tryd.f28 [(.arr 64 (.st .entry))] [(.int .u64)] x = g_ref09_Taken x := by kernel_rfl
theorem ok_ref09_Taken : ConOK Tryd.prog 28 c_ref09_Taken := con_ok (ConsOK.cons ok_ref08_Word (ConsOK.nil)) L_ref09_Taken Ls_ref09_Taken (B := B_ref09_Taken) (BodiesOK.nil) Tryd.func28 rfl fun x y hf h => (run_ref09_Taken x).trans (eq_ref09_Taken x y hf h)
noncomputable def L_ref09_person : List (Nat × LD) := []
noncomputable def Ls_ref09_person : List (Nat × List (Nat × LD)) := []
noncomputable def B_ref09_person : Bodies := []
theorem run_ref09_person (x : denL [(.arr 64 (.st .entry)), (.arr 256 .bool), .i, .bool]) : run [(26, c_ref09_Find)] L_ref09_person Ls_ref09_person B_ref09_person Tryd.f93 [(.arr 64 (.st .entry)), (.arr 256 .bool), .i, .bool] [.i] x = g_ref09_person x := by kernel_rfl
theorem ok_ref09_person : ConOK Tryd.prog 93 c_ref09_person := con_ok (ConsOK.cons ok_ref09_Find (ConsOK.nil)) L_ref09_person Ls_ref09_person (B := B_ref09_person) (BodiesOK.nil) Tryd.func93 rfl fun x y hf h => (run_ref09_person x).trans (eq_ref09_person x y hf h)
noncomputable def L_ref09_Fits : List (Nat × LD) := [(5, ⟨⟨[(2, .ptr 0 []), (3, .ptr 1 []), (5, .ptr 2 []), (16, .hole (.list .i)), (17, .hole .i), (18, .hole .i)], [(0, (.arr 64 (.st .entry)), .hole (.arr 64 (.st .entry))), (1, (.st .batch), .hole (.st .batch)), (2, (.arr 256 .bool), .hole (.arr 256 .bool))], []⟩, [(.ret, ⟨[(4, .hole .i)], [], []⟩), (.exit 0, ⟨[(2, .ptr 0 []), (3, .ptr 1 []), (5, .ptr 2 [])], [(0, (.arr 64 (.st .entry)), .hole (.arr 64 (.st .entry))), (1, (.st .batch), .hole (.st .batch)), (2, (.arr 256 .bool), .hole (.arr 256 .bool))], []⟩)], 10⟩), (13, ⟨⟨[(2, .ptr 0 []), (3, .ptr 1 []), (5, .ptr 2 []), (33, .hole (.list .i)), (34, .hole .i), (35, .hole .i)], [(0, (.arr 64 (.st .entry)), .hole (.arr 64 (.st .entry))), (1, (.st .batch), .hole (.st .batch)), (2, (.arr 256 .bool), .hole (.arr 256 .bool))], []⟩, [(.ret, ⟨[(4, .hole .i)], [], []⟩), (.exit 2, ⟨[(2, .ptr 0 []), (3, .ptr 1 [])], [(0, (.arr 64 (.st .entry)), .hole (.arr 64 (.st .entry))), (1, (.st .batch), .hole (.st .batch))], []⟩)], 10⟩)]
noncomputable def Ls_ref09_Fits : List (Nat × List (Nat × LD)) := []
noncomputable def B_ref09_Fits : Bodies := []
theorem run_ref09_Fits (x : denL [(.arr 64 (.st .entry)), (.st .batch)]) : run [(46, c_ref09_Check), (93, c_ref09_person), (28, c_ref09_Taken), (27, c_ref08_Count)] L_ref09_Fits Ls_ref09_Fits B_ref09_Fits Tryd.f73 [(.arr 64 (.st .entry)), (.st .batch)] [.i] x = g_ref09_Fits x := by kernel_rfl
theorem ok_ref09_Fits : ConOK Tryd.prog 73 c_ref09_Fits := con_ok (ConsOK.cons ok_ref09_Check (ConsOK.cons ok_ref09_person (ConsOK.cons ok_ref09_Taken (ConsOK.cons ok_ref08_Count (ConsOK.nil))))) L_ref09_Fits Ls_ref09_Fits (B := B_ref09_Fits) (BodiesOK.nil) Tryd.func73 rfl fun x y hf h => (run_ref09_Fits x).trans (eq_ref09_Fits x y hf h)
noncomputable def L_ref09_Move : List (Nat × LD) := [(10, ⟨⟨[(2, .hole .i), (3, .hole .i), (4, .ptr 0 []), (5, .ptr 1 []), (8, .ptr 2 []), (13, .hole .i), (14, .hole .i)], [(0, (.arr 64 (.st .entry)), .hole (.arr 64 (.st .entry))), (1, (.st .batch), .hole (.st .batch)), (2, (.arr 64 (.st .entry)), .hole (.arr 64 (.st .entry)))], []⟩, [(.ret, ⟨[(8, .ptr 2 []), (9, .nils), (10, .nils), (11, .hole .i)], [(2, (.arr 64 (.st .entry)), .hole (.arr 64 (.st .entry)))], []⟩), (.exit 0, ⟨[(2, .hole .i), (3, .hole .i), (4, .ptr 0 []), (5, .ptr 1 []), (8, .ptr 2 [])], [(0, (.arr 64 (.st .entry)), .hole (.arr 64 (.st .entry))), (1, (.st .batch), .hole (.st .batch)), (2, (.arr 64 (.st .entry)), .hole (.arr 64 (.st .entry)))], []⟩)], 10⟩), (16, ⟨⟨[(2, .hole .i), (3, .hole .i), (4, .ptr 0 []), (5, .ptr 1 []), (8, .ptr 2 []), (15, .row (.st .seat)), (16, .nils), (79, .hole (.list .i)), (80, .hole .i), (81, .hole .i)], [(0, (.arr 64 (.st .entry)), .hole (.arr 64 (.st .entry))), (1, (.st .batch), .hole (.st .batch)), (2, (.arr 64 (.st .entry)), .hole (.arr 64 (.st .entry)))], []⟩, [(.exit 2, ⟨[(2, .hole .i), (3, .hole .i), (4, .ptr 0 []), (5, .ptr 1 []), (8, .ptr 2 []), (15, .row (.st .seat)), (16, .nils)], [(0, (.arr 64 (.st .entry)), .hole (.arr 64 (.st .entry))), (1, (.st .batch), .hole (.st .batch)), (2, (.arr 64 (.st .entry)), .hole (.arr 64 (.st .entry)))], []⟩)], 13⟩), (26, ⟨⟨[(2, .hole .i), (3, .hole .i), (4, .ptr 0 []), (8, .ptr 2 []), (15, .row (.st .seat)), (16, .row (.st .seat)), (20, .hole .i), (21, .hole .i), (22, .hole .i), (99, .hole (.list .i)), (100, .hole .i), (101, .hole .i)], [(0, (.arr 64 (.st .entry)), .hole (.arr 64 (.st .entry))), (2, (.arr 64 (.st .entry)), .hole (.arr 64 (.st .entry)))], []⟩, [(.exit 6, ⟨[(2, .hole .i), (3, .hole .i), (4, .ptr 0 []), (8, .ptr 2 []), (15, .row (.st .seat)), (16, .row (.st .seat)), (20, .hole .i), (21, .hole .i), (22, .hole .i), (99, .hole (.list .i)), (100, .hole .i), (101, .hole .i)], [(0, (.arr 64 (.st .entry)), .hole (.arr 64 (.st .entry))), (2, (.arr 64 (.st .entry)), .hole (.arr 64 (.st .entry)))], []⟩)], 12⟩), (23, ⟨⟨[(2, .hole .i), (3, .hole .i), (4, .ptr 0 []), (8, .ptr 2 []), (15, .row (.st .seat)), (16, .row (.st .seat)), (99, .hole (.list .i)), (100, .hole .i), (101, .hole .i)], [(0, (.arr 64 (.st .entry)), .hole (.arr 64 (.st .entry))), (2, (.arr 64 (.st .entry)), .hole (.arr 64 (.st .entry)))], []⟩, [(.exit 4, ⟨[(4, .ptr 0 []), (8, .ptr 2 []), (15, .row (.st .seat)), (16, .row (.st .seat))], [(0, (.arr 64 (.st .entry)), .hole (.arr 64 (.st .entry))), (2, (.arr 64 (.st .entry)), .hole (.arr 64 (.st .entry)))], []⟩)], 24⟩)]
noncomputable def Ls_ref09_Move : List (Nat × List (Nat × LD)) := []
noncomputable def B_ref09_Move : Bodies := []
theorem run_ref09_Move (x : denL [(.arr 64 (.st .entry)), (.st .batch), .i, .i]) : run [(73, c_ref09_Fits), (26, c_ref09_Find)] L_ref09_Move Ls_ref09_Move B_ref09_Move Tryd.f75 [(.arr 64 (.st .entry)), (.st .batch), .i, .i] [(.arr 64 (.st .entry)), (.list (.st .seat)), (.list (.st .seat)), .i] x = g_ref09_Move x := by kernel_rfl
theorem ok_ref09_Move : ConOK Tryd.prog 75 c_ref09_Move := con_ok (ConsOK.cons ok_ref09_Fits (ConsOK.cons ok_ref09_Find (ConsOK.nil))) L_ref09_Move Ls_ref09_Move (B := B_ref09_Move) (BodiesOK.nil) Tryd.func75 rfl fun x y hf h => (run_ref09_Move x).trans (eq_ref09_Move x y hf h)
noncomputable def L_ref11_Replaced : List (Nat × LD) := [(7, ⟨⟨[(0, .hole (.list (.st .seat))), (3, .hole (.int .u32)), (4, .hole (.int .u32)), (5, .hole .i), (12, .hole (.list (.st .seat))), (13, .hole .i), (14, .hole .i)], [], []⟩, [(.exit 2, ⟨[(0, .hole (.list (.st .seat))), (3, .hole (.int .u32)), (4, .hole (.int .u32)), (5, .hole .i)], [], []⟩)], 11⟩), (4, ⟨⟨[(0, .hole (.list (.st .seat))), (3, .hole (.int .u32)), (4, .hole (.int .u32)), (5, .hole .i)], [], []⟩, [(.exit 0, ⟨[(3, .hole (.int .u32))], [], []⟩)], 22⟩)]
noncomputable def Ls_ref11_Replaced : List (Nat × List (Nat × LD)) := []
noncomputable def B_ref11_Replaced : Bodies := []
theorem run_ref11_Replaced (x : denL [(.list (.st .seat))]) : run [(20, c_ref01_Leaf), (55, c_ref01_Below)] L_ref11_Replaced Ls_ref11_Replaced B_ref11_Replaced Tryd.f37 [(.list (.st .seat))] [(.int .u32)] x = g_ref11_Replaced x := by kernel_rfl
theorem ok_ref11_Replaced : ConOK Tryd.prog 37 c_ref11_Replaced := con_ok (ConsOK.cons ok_ref01_Leaf (ConsOK.cons ok_ref01_Below (ConsOK.nil))) L_ref11_Replaced Ls_ref11_Replaced (B := B_ref11_Replaced) (BodiesOK.nil) Tryd.func37 rfl fun x y hf h => (run_ref11_Replaced x).trans (eq_ref11_Replaced x y hf h)
noncomputable def L_ref11_Next : List (Nat × LD) := [(10, ⟨⟨[(2, .ptr 0 []), (3, .ptr 1 []), (4, .ptr 2 []), (9, .row (.st .seat)), (34, .hole (.list .i)), (35, .hole .i), (36, .hole .i)], [(0, (.st .tree), .hole (.st .tree)), (1, (.st .batch), .hole (.st .batch)), (2, (.st .tree), .hole (.st .tree))], []⟩, [(.exit 0, ⟨[(2, .ptr 0 []), (3, .ptr 1 []), (4, .ptr 2 []), (9, .row (.st .seat))], [(0, (.st .tree), .hole (.st .tree)), (1, (.st .batch), .hole (.st .batch)), (2, (.st .tree), .hole (.st .tree))], []⟩)], 13⟩)]
noncomputable def Ls_ref11_Next : List (Nat × List (Nat × LD)) := []
noncomputable def B_ref11_Next : Bodies := []
theorem run_ref11_Next (x : denL [(.st .tree), (.st .batch)]) : run [(25, c_ref11_Check), (73, c_ref09_Fits), (26, c_ref09_Find), (37, c_ref11_Replaced), (74, c_ref10_Turn), (75, c_ref09_Move)] L_ref11_Next Ls_ref11_Next B_ref11_Next Tryd.f49 [(.st .tree), (.st .batch)] [(.st .tree), (.list (.st .seat)), (.list (.st .seat)), .i] x = g_ref11_Next x := by kernel_rfl
theorem ok_ref11_Next : ConOK Tryd.prog 49 c_ref11_Next := con_ok (ConsOK.cons ok_ref11_Check (ConsOK.cons ok_ref09_Fits (ConsOK.cons ok_ref09_Find (ConsOK.cons ok_ref11_Replaced (ConsOK.cons ok_ref10_Turn (ConsOK.cons ok_ref09_Move (ConsOK.nil))))))) L_ref11_Next Ls_ref11_Next (B := B_ref11_Next) (BodiesOK.nil) Tryd.func49 rfl fun x y hf h => (run_ref11_Next x).trans (eq_ref11_Next x y hf h)
noncomputable def L_ref12_item : List (Nat × LD) := []
noncomputable def Ls_ref12_item : List (Nat × List (Nat × LD)) := []
noncomputable def B_ref12_item : Bodies := []
theorem run_ref12_item (x : denL [(.st .tree), .i, .i]) : run [(19, c_ref11_Of)] L_ref12_item Ls_ref12_item B_ref12_item Tryd.f77 [(.st .tree), .i, .i] [(.st .item)] x = g_ref12_item x := by kernel_rfl
theorem ok_ref12_item : ConOK Tryd.prog 77 c_ref12_item := con_ok (ConsOK.cons ok_ref11_Of (ConsOK.nil)) L_ref12_item Ls_ref12_item (B := B_ref12_item) (BodiesOK.nil) Tryd.func77 rfl fun x y hf h => (run_ref12_item x).trans (eq_ref12_item x y hf h)
noncomputable def L_ref12_Items : List (Nat × LD) := [(7, ⟨⟨[(2, .hole (.list (.st .seat))), (3, .ptr 0 []), (7, .hole (.int .u32)), (8, .row (.st .item)), (9, .hole .i), (10, .hole .i)], [(0, (.st .tree), .hole (.st .tree))], []⟩, [(.exit 2, ⟨[(2, .hole (.list (.st .seat))), (3, .ptr 0 []), (7, .hole (.int .u32)), (8, .row (.st .item)), (9, .hole .i)], [(0, (.st .tree), .hole (.st .tree))], []⟩)], 13⟩), (4, ⟨⟨[(2, .hole (.list (.st .seat))), (3, .ptr 0 []), (7, .hole (.int .u32)), (8, .row (.st .item)), (9, .hole .i)], [(0, (.st .tree), .hole (.st .tree))], []⟩, [(.exit 0, ⟨[(2, .hole (.list (.st .seat))), (3, .ptr 0 []), (7, .hole (.int .u32)), (8, .row (.st .item))], [(0, (.st .tree), .hole (.st .tree))], []⟩)], 25⟩), (17, ⟨⟨[(3, .ptr 0 []), (7, .hole (.int .u32)), (8, .row (.st .item)), (13, .ptr 27 []), (14, .ptr 28 []), (16, .hole .i), (46, .hole (.list (.st .seat))), (47, .hole .i), (48, .hole .i)], [(0, (.st .tree), .hole (.st .tree)), (27, (.st .seat), .hole (.st .seat)), (28, (.arr 3 .i), .hole (.arr 3 .i))], []⟩, [(.exit 6, ⟨[(3, .ptr 0 []), (7, .hole (.int .u32)), (8, .row (.st .item)), (46, .hole (.list (.st .seat))), (47, .hole .i), (48, .hole .i)], [(0, (.st .tree), .hole (.st .tree))], []⟩)], 13⟩), (13, ⟨⟨[(3, .ptr 0 []), (7, .hole (.int .u32)), (8, .row (.st .item)), (46, .hole (.list (.st .seat))), (47, .hole .i), (48, .hole .i)], [(0, (.st .tree), .hole (.st .tree))], []⟩, [(.exit 4, ⟨[(8, .row (.st .item))], [], []⟩)], 27⟩)]
noncomputable def Ls_ref12_Items : List (Nat × List (Nat × LD)) := []
noncomputable def B_ref12_Items : Bodies := []
theorem run_ref12_Items (x : denL [(.st .tree), (.list (.st .seat)), (.list (.st .seat))]) : run [(37, c_ref11_Replaced), (24, c_ref01_In), (70, c_ref01_Child), (76, c_ref11_Below), (77, c_ref12_item), (21, c_ref01_Path), (20, c_ref01_Leaf)] L_ref12_Items Ls_ref12_Items B_ref12_Items Tryd.f50 [(.st .tree), (.list (.st .seat)), (.list (.st .seat))] [(.list (.st .item))] x = g_ref12_Items x := by kernel_rfl
theorem ok_ref12_Items : ConOK Tryd.prog 50 c_ref12_Items := con_ok (ConsOK.cons ok_ref11_Replaced (ConsOK.cons ok_ref01_In (ConsOK.cons ok_ref01_Child (ConsOK.cons ok_ref11_Below (ConsOK.cons ok_ref12_item (ConsOK.cons ok_ref01_Path (ConsOK.cons ok_ref01_Leaf (ConsOK.nil)))))))) L_ref12_Items Ls_ref12_Items (B := B_ref12_Items) (BodiesOK.nil) Tryd.func50 rfl fun x y hf h => (run_ref12_Items x).trans (eq_ref12_Items x y hf h)
noncomputable def L_ref12_Next : List (Nat × LD) := []
noncomputable def Ls_ref12_Next : List (Nat × List (Nat × LD)) := []
noncomputable def B_ref12_Next : Bodies := []
theorem run_ref12_Next (x : denL [(.st .tree), (.st .batch)]) : run [(49, c_ref11_Next), (50, c_ref12_Items)] L_ref12_Next Ls_ref12_Next B_ref12_Next Tryd.f29 [(.st .tree), (.st .batch)] [(.st .tree), (.st .rekey), .i] x = g_ref12_Next x := by kernel_rfl
theorem ok_ref12_Next : ConOK Tryd.prog 29 c_ref12_Next := con_ok (ConsOK.cons ok_ref11_Next (ConsOK.cons ok_ref12_Items (ConsOK.nil))) L_ref12_Next Ls_ref12_Next (B := B_ref12_Next) (BodiesOK.nil) Tryd.func29 rfl fun x y hf h => (run_ref12_Next x).trans (eq_ref12_Next x y hf h)
noncomputable def L_plan_Replaced : List (Nat × LD) := [(3, ⟨⟨[(3, .hole (.int .u64)), (6, .hole (.list (.st .seat))), (7, .hole .i), (8, .hole .i)], [], []⟩, [(.exit 0, ⟨[(3, .hole (.int .u64))], [], []⟩)], 11⟩)]
noncomputable def Ls_plan_Replaced : List (Nat × List (Nat × LD)) := []
noncomputable def B_plan_Replaced : Bodies := []
theorem run_plan_Replaced (x : denL [(.list (.st .seat))]) : run [(35, c_shape_Leaf), (34, c_shape_Mask), (36, c_shape_Above)] L_plan_Replaced Ls_plan_Replaced B_plan_Replaced Tryd.f13 [(.list (.st .seat))] [(.int .u32)] x = g_plan_Replaced x := by kernel_rfl
theorem ok_plan_Replaced : ConOK Tryd.prog 13 c_plan_Replaced := con_ok (ConsOK.cons ok_shape_Leaf (ConsOK.cons ok_shape_Mask (ConsOK.cons ok_shape_Above (ConsOK.nil)))) L_plan_Replaced Ls_plan_Replaced (B := B_plan_Replaced) (BodiesOK.nil) Tryd.func13 rfl fun x y hf h => (run_plan_Replaced x).trans (eq_plan_Replaced x y hf h)
noncomputable def L_bits_OnesCount64 : List (Nat × LD) := []
noncomputable def Ls_bits_OnesCount64 : List (Nat × List (Nat × LD)) := []
noncomputable def B_bits_OnesCount64 : Bodies := []
theorem run_bits_OnesCount64 (x : denL [(.int .u64)]) : run [] L_bits_OnesCount64 Ls_bits_OnesCount64 B_bits_OnesCount64 Tryd.f98 [(.int .u64)] [.i] x = g_bits_OnesCount64 x := by kernel_rfl
theorem ok_bits_OnesCount64 : ConOK Tryd.prog 98 c_bits_OnesCount64 := con_ok (ConsOK.nil) L_bits_OnesCount64 Ls_bits_OnesCount64 (B := B_bits_OnesCount64) (BodiesOK.nil) Tryd.func98 rfl fun x y hf h => (run_bits_OnesCount64 x).trans (eq_bits_OnesCount64 x y hf h)
noncomputable def L_seats_Count : List (Nat × LD) := []
noncomputable def Ls_seats_Count : List (Nat × List (Nat × LD)) := []
noncomputable def B_seats_Count : Bodies := []
theorem run_seats_Count (x : denL [(.int .u64)]) : run [(98, c_bits_OnesCount64)] L_seats_Count Ls_seats_Count B_seats_Count Tryd.f83 [(.int .u64)] [.i] x = g_seats_Count x := by kernel_rfl
theorem ok_seats_Count : ConOK Tryd.prog 83 c_seats_Count := con_ok (ConsOK.cons ok_bits_OnesCount64 (ConsOK.nil)) L_seats_Count Ls_seats_Count (B := B_seats_Count) (BodiesOK.nil) Tryd.func83 rfl fun x y hf h => (run_seats_Count x).trans (eq_seats_Count x y hf h)
noncomputable def L_seats_bit : List (Nat × LD) := []
noncomputable def Ls_seats_bit : List (Nat × List (Nat × LD)) := []
noncomputable def B_seats_bit : Bodies := []
theorem run_seats_bit (x : denL [.i]) : run [] L_seats_bit Ls_seats_bit B_seats_bit Tryd.f102 [.i] [(.int .u64)] x = g_seats_bit x := by kernel_rfl
theorem ok_seats_bit : ConOK Tryd.prog 102 c_seats_bit := con_ok (ConsOK.nil) L_seats_bit Ls_seats_bit (B := B_seats_bit) (BodiesOK.nil) Tryd.func102 rfl fun x y hf h => (run_seats_bit x).trans (eq_seats_bit x y hf h)
noncomputable def L_ref09_Same : List (Nat × LD) := [(4, ⟨⟨[(0, .hole (.list (.st .seat))), (1, .hole (.list (.st .seat))), (12, .hole .i), (13, .hole .i)], [], []⟩, [(.ret, ⟨[(4, .hole .bool)], [], []⟩), (.exit 0, ⟨[], [], []⟩)], 10⟩)]
noncomputable def Ls_ref09_Same : List (Nat × List (Nat × LD)) := []
noncomputable def B_ref09_Same : Bodies := []
theorem run_ref09_Same (x : denL [(.list (.st .seat)), (.list (.st .seat))]) : run [] L_ref09_Same Ls_ref09_Same B_ref09_Same Tryd.f15 [(.list (.st .seat)), (.list (.st .seat))] [.bool] x = g_ref09_Same x := by kernel_rfl
theorem ok_ref09_Same : ConOK Tryd.prog 15 c_ref09_Same := con_ok (ConsOK.nil) L_ref09_Same Ls_ref09_Same (B := B_ref09_Same) (BodiesOK.nil) Tryd.func15 rfl fun x y hf h => (run_ref09_Same x).trans (eq_ref09_Same x y hf h)
noncomputable def L_ref12_SameItems : List (Nat × LD) := [(4, ⟨⟨[(0, .hole (.list (.st .item))), (1, .hole (.list (.st .item))), (12, .hole .i), (13, .hole .i)], [], []⟩, [(.ret, ⟨[(4, .hole .bool)], [], []⟩), (.exit 0, ⟨[], [], []⟩)], 10⟩)]
noncomputable def Ls_ref12_SameItems : List (Nat × List (Nat × LD)) := []
noncomputable def B_ref12_SameItems : Bodies := []
theorem run_ref12_SameItems (x : denL [(.list (.st .item)), (.list (.st .item))]) : run [] L_ref12_SameItems Ls_ref12_SameItems B_ref12_SameItems Tryd.f51 [(.list (.st .item)), (.list (.st .item))] [.bool] x = g_ref12_SameItems x := by kernel_rfl
theorem ok_ref12_SameItems : ConOK Tryd.prog 51 c_ref12_SameItems := con_ok (ConsOK.nil) L_ref12_SameItems Ls_ref12_SameItems (B := B_ref12_SameItems) (BodiesOK.nil) Tryd.func51 rfl fun x y hf h => (run_ref12_SameItems x).trans (eq_ref12_SameItems x y hf h)
noncomputable def L_ref12_Same : List (Nat × LD) := []
noncomputable def Ls_ref12_Same : List (Nat × List (Nat × LD)) := []
noncomputable def B_ref12_Same : Bodies := []
theorem run_ref12_Same (x : denL [(.st .rekey), (.st .rekey)]) : run [(15, c_ref09_Same), (51, c_ref12_SameItems)] L_ref12_Same Ls_ref12_Same B_ref12_Same Tryd.f31 [(.st .rekey), (.st .rekey)] [.bool] x = g_ref12_Same x := by kernel_rfl
theorem ok_ref12_Same : ConOK Tryd.prog 31 c_ref12_Same := con_ok (ConsOK.cons ok_ref09_Same (ConsOK.cons ok_ref12_SameItems (ConsOK.nil))) L_ref12_Same Ls_ref12_Same (B := B_ref12_Same) (BodiesOK.nil) Tryd.func31 rfl fun x y hf h => (run_ref12_Same x).trans (eq_ref12_Same x y hf h)
noncomputable def L_law12_opened : List (Nat × LD) := [(2, ⟨⟨[(1, .hole .i), (2, .hole .i), (7, .ptr 1 []), (8, .ptr 2 []), (15, .hole (.list (.st .item))), (16, .hole .i), (17, .hole .i)], [(1, (.st .key), .hole (.st .key)), (2, (.st .key), .hole (.st .key))], []⟩, [(.ret, ⟨[(8, .ptr 2 []), (9, .hole .bool)], [(2, (.st .key), .hole (.st .key))], []⟩), (.exit 0, ⟨[(8, .ptr 2 [])], [(2, (.st .key), .hole (.st .key))], []⟩)], 12⟩)]
noncomputable def Ls_law12_opened : List (Nat × List (Nat × LD)) := []
noncomputable def B_law12_opened : Bodies := []
theorem run_law12_opened (x : denL [(.st .rekey), .i, .i, (.st .key)]) : run [(68, c_ref02_Open)] L_law12_opened Ls_law12_opened B_law12_opened Tryd.f40 [(.st .rekey), .i, .i, (.st .key)] [(.st .key), .bool] x = g_law12_opened x := by kernel_rfl
theorem ok_law12_opened : ConOK Tryd.prog 40 c_law12_opened := con_ok (ConsOK.cons ok_ref02_Open (ConsOK.nil)) L_law12_opened Ls_law12_opened (B := B_law12_opened) (BodiesOK.nil) Tryd.func40 rfl fun x y hf h => (run_law12_opened x).trans (eq_law12_opened x y hf h)
noncomputable def L_plan_nodeKey : List (Nat × LD) := []
noncomputable def Ls_plan_nodeKey : List (Nat × List (Nat × LD)) := []
noncomputable def B_plan_nodeKey : Bodies := []
theorem run_plan_nodeKey (x : denL [(.st .tree), .i]) : run [(89, c_shape_Slot), (90, c_ratchet_LeafAt)] L_plan_nodeKey Ls_plan_nodeKey B_plan_nodeKey Tryd.f64 [(.st .tree), .i] [(.st .key)] x = g_plan_nodeKey x := by kernel_rfl
theorem ok_plan_nodeKey : ConOK Tryd.prog 64 c_plan_nodeKey := con_ok (ConsOK.cons ok_shape_Slot (ConsOK.cons ok_ratchet_LeafAt (ConsOK.nil))) L_plan_nodeKey Ls_plan_nodeKey (B := B_plan_nodeKey) (BodiesOK.nil) Tryd.func64 rfl fun x y hf h => (run_plan_nodeKey x).trans (eq_plan_nodeKey x y hf h)
noncomputable def L_plan_leavers : List (Nat × LD) := [(3, ⟨⟨[(2, .ptr 0 []), (5, .row (.st .seat)), (8, .hole (.list .i)), (9, .hole .i), (10, .hole .i)], [(0, (.arr 64 (.st .entry)), .hole (.arr 64 (.st .entry)))], []⟩, [(.exit 0, ⟨[(5, .row (.st .seat))], [], []⟩)], 13⟩)]
noncomputable def Ls_plan_leavers : List (Nat × List (Nat × LD)) := []
noncomputable def B_plan_leavers : Bodies := []
theorem run_plan_leavers (x : denL [(.arr 64 (.st .entry)), (.list .i)]) : run [(82, c_roster_Find)] L_plan_leavers Ls_plan_leavers B_plan_leavers Tryd.f58 [(.arr 64 (.st .entry)), (.list .i)] [(.list (.st .seat))] x = g_plan_leavers x := by kernel_rfl
theorem ok_plan_leavers : ConOK Tryd.prog 58 c_plan_leavers := con_ok (ConsOK.cons ok_roster_Find (ConsOK.nil)) L_plan_leavers Ls_plan_leavers (B := B_plan_leavers) (BodiesOK.nil) Tryd.func58 rfl fun x y hf h => (run_plan_leavers x).trans (eq_plan_leavers x y hf h)
noncomputable def L_roster_names : List (Nat × LD) := []
noncomputable def Ls_roster_names : List (Nat × List (Nat × LD)) := [(96, [(2, ⟨⟨[(0, .asl 0 []), (1, .fn 100 [1, 2]), (7, .hole .i), (8, .hole .i)], [(0, (.arr 64 (.st .entry)), .hole (.arr 64 (.st .entry))), (1, .i, .hole .i), (2, .i, .hole .i)], []⟩, [(.ret, ⟨[(4, .hole .i)], [(0, (.arr 64 (.st .entry)), .hole (.arr 64 (.st .entry))), (1, .i, .hole .i), (2, .i, .hole .i)], []⟩), (.exit 0, ⟨[], [(0, (.arr 64 (.st .entry)), .hole (.arr 64 (.st .entry))), (1, .i, .hole .i), (2, .i, .hole .i)], []⟩)], 10⟩)])]
noncomputable def B_roster_names : Bodies := [bodyLine 100 Tryd.f100, bodyLine 99 Tryd.f99, bodyLine 96 Tryd.f96]
theorem run_roster_names (x : denL [(.arr 64 (.st .entry)), .i, .i]) : run [] L_roster_names Ls_roster_names B_roster_names Tryd.f86 [(.arr 64 (.st .entry)), .i, .i] [.bool] x = g_roster_names x := by kernel_rfl
theorem ok_roster_names : ConOK Tryd.prog 86 c_roster_names := con_ok (ConsOK.nil) L_roster_names Ls_roster_names (B := B_roster_names) (BodiesOK.cons Tryd.func100 rfl (BodiesOK.cons Tryd.func99 rfl (BodiesOK.cons Tryd.func96 rfl (BodiesOK.nil)))) Tryd.func86 rfl fun x y hf h => (run_roster_names x).trans (eq_roster_names x y hf h)
noncomputable def L_roster_Fits : List (Nat × LD) := []
noncomputable def Ls_roster_Fits : List (Nat × List (Nat × LD)) := [(81, [(2, ⟨⟨[(1, .hole .bool), (2, .hole .i), (3, .ptr 3 []), (4, .ptr 0 []), (11, .hole (.list .i)), (12, .hole .i), (13, .hole .i)], [(0, (.arr 64 (.st .entry)), .hole (.arr 64 (.st .entry))), (1, (.st .batch), .hole (.st .batch)), (3, .bool, .mp 2)], [(2, .i, .i)]⟩, [(.ret, ⟨[(8, .hole .i)], [(0, (.arr 64 (.st .entry)), .hole (.arr 64 (.st .entry))), (1, (.st .batch), .hole (.st .batch)), (3, .bool, .mp 2)], [(2, .i, .i)]⟩), (.exit 0, ⟨[], [(0, (.arr 64 (.st .entry)), .hole (.arr 64 (.st .entry))), (1, (.st .batch), .hole (.st .batch)), (3, .bool, .mp 2)], [(2, .i, .i)]⟩)], 10⟩)])]
noncomputable def B_roster_Fits : Bodies := [bodyLine 81 Tryd.f81]
theorem run_roster_Fits (x : denL [(.arr 64 (.st .entry)), (.st .batch)]) : run [(80, c_roster_Check), (82, c_roster_Find), (65, c_roster_Taken), (83, c_seats_Count)] L_roster_Fits Ls_roster_Fits B_roster_Fits Tryd.f57 [(.arr 64 (.st .entry)), (.st .batch)] [.i] x = g_roster_Fits x := by kernel_rfl
theorem ok_roster_Fits : ConOK Tryd.prog 57 c_roster_Fits := con_ok (ConsOK.cons ok_roster_Check (ConsOK.cons ok_roster_Find (ConsOK.cons ok_roster_Taken (ConsOK.cons ok_seats_Count (ConsOK.nil))))) L_roster_Fits Ls_roster_Fits (B := B_roster_Fits) (BodiesOK.cons Tryd.func81 rfl (BodiesOK.nil)) Tryd.func57 rfl fun x y hf h => (run_roster_Fits x).trans (eq_roster_Fits x y hf h)
end Go.Proofs.YtplmbkgjaobhgaaDoor
end

section
namespace Go.Co
open Go Go.RowKit

/-- It speaks of cells alone. -/
structure Cl {α : Type} (n0 : Nat) (I : List α → World → Prop) : Prop where
  alloc : ∀ s A o, o.isCells = false → I s A → I s (A.alloc o)
  putObj : ∀ s A l o o', n0 ≤ l → I s A → A.heap[l]? = some o → o.isCells = false → o'.isCells = false → I s (A.putObj l o')
/-- What a round must achieve. -/
def roundPost {α : Type} (Be : Nat) (I : List α → World → Prop) (Ix : Code → List α → World → Prop) (xs : List α) (W : World) : Exit → Act → World → Prop
  | .normal, _, W' => KeepsOthers W W' ∧ W'.heap[Be]? = W.heap[Be]? ∧ I xs W'
  | .ret, _, W' => KeepsOthers W W' ∧ Ix .ret xs W'
  | .exit id, _, W' => KeepsOthers W W' ∧ Ix (.exit id) xs W'
  | _, _, _ => False
theorem rangeFunc_box {F : Fence} {n : Nat} {P : Program} {α : Type} {g : Operand} {ps : Array Tmp} {assign body : Code} {Q : Exit → Act → World → Prop} {a : Act} {w : World}
    (hro : F.round = none) (h1 : 1 ≤ n) {gf : Nat} {lb : Array Value} (hg : a.eval g = .func (.func gf) #[] lb) (hFg : F.fn gf) (eg : ∀ args w, (callFunc gf args).run P w = .ok (.enter gf args) w)
    {encs : α → Array Value} {Be : Nat} {tB : TypeId} {xB : Value} {G : World → Prop} {xs : List α} (hps : ∀ x, (encs x).size = ps.size)
    (hseq : ∀ (l : Nat) (J Jx : List α → World → Prop) (W : World), (∀ pre A x v, J pre A → Boxed A Be tB x → J pre (A.setCell ⟨Be, 0, none⟩ v)) → (∀ pre A, J pre A → G A) →
      (∀ pre x W, J pre W → pre ++ [x] <+: xs → YieldAt F (n - 1 - 1) P l (encs x) W fun e W' => (e = .returned (.bool true) ∧ J (pre ++ [x]) W' ∧ W'.heap[Be]? = W.heap[Be]?) ∨ (e = .returned (.bool false) ∧ Jx (pre ++ [x]) W')) →
      Boxed W Be tB xB → J [] W → CallsIn F (n - 1) P gf (#[.func (.yield l) #[] #[]] ++ lb) W fun e W' => (∃ v, e = .returned v) ∧ (J xs W' ∨ ∃ pre, pre <+: xs ∧ Jx pre W'))
    (hB : Boxed w Be tB xB) (I : List α → World → Prop) (Ix : Code → List α → World → Prop) (hI : Cl w.heap.size I) (hIx : ∀ c, Cl w.heap.size (Ix c)) (hset : ∀ pre A x v, I pre A → Boxed A Be tB x → I pre (A.setCell ⟨Be, 0, none⟩ v)) (hG : ∀ pre A, I pre A → G A) (h0 : I [] w) (a₁ : α → Act)
    (hassign : ∀ (l : Nat) (x : α) (W : World) (K : Act → World → Prop), K (a₁ x) W →
      assign.wpIn (F.inRound l) (n - 1 - 1) P (Exit.then K (fun _ _ _ => False)) { tmps := (ps.zip (encs x)).foldl (fun t (p, v) => t.setIfInBounds p v) a.tmps, defers := [] } W)
    (hbody : ∀ (l : Nat) (pre : List α) (x : α) (W : World), I pre W → pre ++ [x] <+: xs → body.wpIn (F.inRound l) (n - 1 - 1) P (roundPost Be I Ix (pre ++ [x]) W) (a₁ x) W)
    (hdone : ∀ (D : Nat) (W : World), I xs W → W.heap[D]? = some (.deferred (some [])) → w.heap.size ≤ D → Q .normal { a with defers := { target := .collected D, args := #[] } :: a.defers } W)
    (hstop : ∀ (D : Nat) (c : Code) (pre : List α) (W : World), pre <+: xs → Ix c pre W → W.heap[D]? = some (.deferred (some [])) → w.heap.size ≤ D → c.wpIn F n P Q { a with defers := { target := .collected D, args := #[] } :: a.defers } W) :
    (Code.rangeFunc g ps assign body).wpIn F n P Q a w := by
  refine wpIn_rangeFunc ?_
  intro fn hfn
  rw [hro]
  obtain ⟨rec, hrec⟩ : ∃ rec : LoopState → Option Code → Loop, rec = fun st pe => { state := st, pending := pe, fn, tmps := a.tmps, params := ps, assign, body, defers := w.heap.size } := ⟨_, rfl⟩
  obtain ⟨W1, hW1⟩ : ∃ W1, (w.alloc (.deferred (some []))).alloc (.loop (rec .ready none)) = W1 := ⟨_, rfl⟩
  have hL1 : W1.heap[w.heap.size + 1]? = some (.loop (rec .ready none)) := by
    rw [← hW1]; have := World.alloc_heap_new (w.alloc (.deferred (some []))) (.loop (rec .ready none)); rwa [World.size_alloc] at this
  have hK1 : W1.heap[w.heap.size]? = some (.deferred (some [])) := by
    rw [← hW1]; exact (Below.heap_alloc _ _ _ (by simp)).trans (World.alloc_heap_new w _)
  have hI1 : I [] W1 := by rw [← hW1]; exact hI.alloc _ _ _ rfl (hI.alloc _ _ _ rfl h0)
  have hB1 : Boxed W1 Be tB xB := by rw [← hW1]; exact (hB.alloc _).alloc _
  have hBlt : Be < w.heap.size := hB.lt
  refine ⟨w.heap.size + 1, [{ target := .collected w.heap.size, args := #[] }], W1, { target := .fn (.func gf) lb, args := #[.func (.yield (w.heap.size + 1)) #[] #[]] }, W1, gf,
    #[.func (.yield (w.heap.size + 1)) #[] #[]] ++ lb, W1, ?_, ?_, ?_, ?_, fun _ => h1, ?_⟩
  · rw [← hW1, hrec]; exact run_enterLoop_outer _ _ _ _ _
  · simp only [resolve, hg]
    simp [go_sem]
  · intro f' hf'; simp [Target.leads] at hf'; subst hf'; exact hFg
  · simp [invoke, go_sem, eg]
  · refine (hseq (w.heap.size + 1)
      (fun pre W => I pre W ∧ W.heap[w.heap.size + 1]? = some (.loop (rec .ready none)) ∧ W.heap[w.heap.size]? = some (.deferred (some [])))
      (fun pre W => ∃ c, Ix c pre W ∧ W.heap[w.heap.size + 1]? = some (.loop (rec .done (some c))) ∧ W.heap[w.heap.size]? = some (.deferred (some [])))
      W1 ?_ (fun pre A h => hG pre A h.1) ?_ hB1 ⟨hI1, hL1, hK1⟩).mono ?_
    · rintro pre A x v ⟨hi, hl, hk⟩ hb
      exact ⟨hset _ _ _ _ hi hb, (KeepsOthers.setCell A _ v).same _ _ hl rfl, (KeepsOthers.setCell A _ v).same _ _ hk rfl⟩
    · -- one round
      rintro pre x W ⟨hi, hl, hk⟩ hpre
      have hlt : w.heap.size + 1 < W.heap.size := (Array.getElem?_eq_some_iff.1 hl).1
      have hy := run_yield (P := P) (args := encs x) hl (by rw [hrec]; exact hps x)
      rw [hrec] at hy
      refine ⟨fn, _, assign, body, hy, roundIn_of_wpIn hfn (hassign _ x W _ ⟨_, run_beginRound hl (by rw [hrec]), ?_⟩)⟩
      have hl2 : (W.putObj (w.heap.size + 1) (.loop { rec .ready none with state := .busy })).heap[w.heap.size + 1]? = some (.loop { rec .ready none with state := .busy }) := World.putObj_heap_same hlt
      have hk2 : (W.putObj (w.heap.size + 1) (.loop { rec .ready none with state := .busy })).heap[w.heap.size]? = some (.deferred (some [])) := (World.putObj_heap_other (by omega)).trans hk
      have hb2 : (W.putObj (w.heap.size + 1) (.loop { rec .ready none with state := .busy })).heap[Be]? = W.heap[Be]? := World.putObj_heap_other (by omega)
      refine wpIn_mono (hbody _ pre x _ (hI.putObj _ _ _ _ _ (by omega) hi hl rfl rfl) hpre) ?_
      have fin : ∀ (jump : Option Code) (W3 : World), KeepsOthers (W.putObj (w.heap.size + 1) (.loop { rec .ready none with state := .busy })) W3 →
          (Instr.endRound (w.heap.size + 1) jump).run P W3 = .ok (.bool jump.isNone) (W3.putObj (w.heap.size + 1) (.loop (rec (if jump.isNone then .ready else .done) jump))) ∧
          W3.heap[w.heap.size + 1]? = some (.loop { rec .ready none with state := .busy }) ∧
          (W3.putObj (w.heap.size + 1) (.loop (rec (if jump.isNone then .ready else .done) jump))).heap[w.heap.size + 1]? = some (.loop (rec (if jump.isNone then .ready else .done) jump)) ∧
          (W3.putObj (w.heap.size + 1) (.loop (rec (if jump.isNone then .ready else .done) jump))).heap[w.heap.size]? = some (.deferred (some [])) := fun jump W3 hk3 => by
        have hl3 := hk3.same _ _ hl2 rfl
        have := run_endRound (P := P) jump hl3
        rw [hrec] at this ⊢
        exact ⟨this, by rw [hrec] at hl3; exact hl3, World.putObj_heap_same (Array.getElem?_eq_some_iff.1 hl3).1, (World.putObj_heap_other (by omega)).trans (hk3.same _ _ hk2 rfl)⟩
      rintro e a3 W3 hp
      cases e with
      | normal =>
        obtain ⟨hk3, hb3, hi3⟩ := hp
        obtain ⟨hr, hl3, hl4, hk4⟩ := fin none W3 hk3
        exact ⟨_, _, hr, .inl ⟨rfl, ⟨hI.putObj _ _ _ _ _ (by omega) hi3 hl3 rfl rfl, hl4, hk4⟩, ((World.putObj_heap_other (by omega)).trans hb3).trans hb2⟩⟩
      | ret =>
        obtain ⟨hk3, hi3⟩ := hp
        obtain ⟨hr, hl3, hl4, hk4⟩ := fin (some .ret) W3 hk3
        exact ⟨_, _, hr, .inr ⟨rfl, .ret, (hIx _).putObj _ _ _ _ _ (by omega) hi3 hl3 rfl rfl, hl4, hk4⟩⟩
      | exit id =>
        obtain ⟨hk3, hi3⟩ := hp
        obtain ⟨hr, hl3, hl4, hk4⟩ := fin (some (.exit id)) W3 hk3
        exact ⟨_, _, hr, .inr ⟨rfl, .exit id, (hIx _).putObj _ _ _ _ _ (by omega) hi3 hl3 rfl rfl, hl4, hk4⟩⟩
      | goto t => exact hp.elim
      | panic ch => exact hp.elim
      | outgrown => exact hp.elim
    · -- behind the iterator
      rintro e W2 ⟨⟨v, rfl⟩, (⟨hi, hl, hk⟩ | ⟨pre, hpre, c, hi, hl, hk⟩)⟩
      · exact ⟨none, _, by have := run_endLoop (P := P) hl (by rw [hrec]; simp); rw [hrec] at this; exact this, hdone _ _ (hI.putObj _ _ _ _ _ (by omega) hi hl rfl rfl) ((World.putObj_heap_other (by omega)).trans hk) (Nat.le_refl _)⟩
      · exact ⟨some c, _, by have := run_endLoop (P := P) hl (by rw [hrec]; simp); rw [hrec] at this; exact this, hstop _ c pre _ hpre ((hIx c).putObj _ _ _ _ _ (by omega) hi hl rfl rfl) ((World.putObj_heap_other (by omega)).trans hk) (Nat.le_refl _)⟩

/-! ### Nothing is frozen by an append -/
theorem fz_alloc (w : World) (o : Obj) (ho : ∀ cs e f, o = .cells cs e f → f = (0, 0)) (a : Addr) : (w.alloc o).frozen? a = w.frozen? a := by
  by_cases h : a.block = w.heap.size
  · have h1 : (w.alloc o).heap[a.block]? = some o := by rw [h]; exact World.alloc_heap_new w o
    have h2 : w.heap[a.block]? = none := by rw [h]; simp
    unfold World.frozen?
    rw [h1, h2]
    cases o with
    | cells cs e f => have := ho cs e f rfl; subst this; simp
    | _ => rfl
  · by_cases hlt : a.block < w.heap.size
    · exact frozen_same (Below.heap_alloc _ _ _ hlt)
    · have h1 : (w.alloc o).heap[a.block]? = none := Array.getElem?_eq_none (by have := World.size_alloc w o; omega)
      have h2 : w.heap[a.block]? = none := Array.getElem?_eq_none (by omega)
      exact frozen_same (h1.trans h2.symm)
theorem fz_set (w : World) (b : Addr) (v : Value) (a : Addr) : (w.setCell b v).frozen? a = w.frozen? a := by rw [World.frozen?_setCell]
theorem fz_putObj (w : World) {l : Nat} {o : Obj} (o' : Obj) (hl : w.heap[l]? = some o) (ho : o.isCells = false) (ho' : o'.isCells = false) (a : Addr) : (w.putObj l o').frozen? a = w.frozen? a := by
  by_cases h : a.block = l
  · have h1 : (w.putObj l o').heap[a.block]? = some o' := by rw [h]; exact World.putObj_heap_same (Array.getElem?_eq_some_iff.1 hl).1
    have nc : ∀ o : Obj, o.isCells = false → ∀ w : World, w.heap[a.block]? = some o → w.frozen? a = false := fun o ho w hw => by
      unfold World.frozen?
      rw [hw]
      cases o <;> first | rfl | (simp [Obj.isCells] at ho)
    rw [nc o' ho' _ h1, nc o ho w (by rw [h]; exact hl)]
  · exact frozen_same (World.putObj_heap_other h)
theorem fz_append {P : Program} {w : World} {base : Nat} {t ty e : TypeId} {i : TypeInfo} {z : Value} (ht : P.underlying t = some (.slice e)) (hi : P.info? e = some i) (hz : i.zero = some z)
    {v : Value} {n : Nat} {xs : List Value} (hown : w.ownsRow base e i.size v n xs) {a : Addr} {m c : Nat} {news : List Value} (hl : news.length = m * i.size) (hnews : ∀ j u, news[j]? = some u → w.cell? (a.add j) = some u) (h1 : ∀ u ∈ news, u.oneCell' = true)
    (hm : 0 < m) (h63 : n + m ≤ maxLen) (hbytes : (n + m) * i.bytes ≤ 140737488355328) {v' : Value} {w' : World} (hrun : (Builtin.append_ #[t, t] ty #[v, .slice (some a) m c]).run P w = .ok v' w') (b : Addr) : w'.frozen? b = w.frozen? b := by
  have hsmall : n + m ≤ 9223372036854775807 := by simp only [maxLen] at h63; omega
  have new : ∀ cs : Array Value, (w.drew.alloc (.cells cs e)).frozen? b = w.frozen? b := fun cs => (fz_alloc w.drew _ (fun _ _ _ h => by cases h; rfl) b).trans rfl
  rcases hown.2 with ⟨rfl, rfl⟩ | ⟨g, cap, cur, rfl, _, hg, _, _, hcs, _⟩
  · rw [run_append_nil (P := P) w t ty e i z ht hi hz a m c news hl hnews hm (by omega) (by simp only [Nat.zero_add] at hbytes; omega)] at hrun
    cases hrun; exact new _
  · by_cases hroom : n + m ≤ cap
    · have hfit : n * i.size + news.length ≤ cur.size := by rw [hl, hcs, ← Nat.add_mul]; exact Nat.mul_le_mul_right _ hroom
      rw [run_append_room (P := P) w t ty e i ht hi g n cap cur hg a m c news hl hnews h1 hroom hfit] at hrun
      cases hrun
      by_cases hb : b.block = g
      · have := setRow_heap w g cur (cur.toList.take (n * i.size) ++ news ++ cur.toList.drop (n * i.size + news.length)).toArray e (0, 0) hg
        unfold World.frozen?
        rw [hb, this, hg]
      · exact frozen_same (setRow_other w g b.block _ hb)
    · have holds : ∀ j u, xs[j]? = some u → w.cell? ((⟨g, 0, none⟩ : Addr).add j) = some u := hown.cells (g := g) rfl
      rw [run_append_grow (P := P) w t ty e i z ht hi hz ⟨g, 0, none⟩ n cap xs hown.1 holds a m c news hl hnews (by omega) (by omega) (growslice_fits (by omega) hbytes)] at hrun
      cases hrun; exact new _
/-- An append to a row of one's own, in a walk; nothing is frozen by it. -/
theorem wpListIn_append_fz {F : Fence} {k : Nat} {P : Program} (w : World) {ops : Array Oper} {rest : List Oper} {o : Oper} {a : Act} {Q : Exit → Act → World → Prop}
    (hg : o.guard = none) (s x : Operand) (t : TypeId) (hop : o.op = Op.call { callee := Callee.builtin Builtin.append, args := #[s, x], argTypes := #[t, t] })
    (base : Nat) (e : TypeId) (i : TypeInfo) (z : Value) (size bytes : Nat) (h1 : P.underlying t = some (.slice e)) (h2 : P.info? e = some i) (h3 : i.zero = some z) (h4 : i.size = size) (h5 : i.bytes = bytes) (h6 : z.cells.size = size) (h7 : 0 < size)
    (v : Value) (n : Nat) (xs : List Value) (hs : a.eval s = v) (hown : w.ownsRow base e size v n xs) (ad : Addr) (m c : Nat) (news : List Value) (hx : a.eval x = .slice (some ad) m c) (hn : news.length = m * size)
    (hc : ∀ j u, news[j]? = some u → w.cell? (ad.add j) = some u) (h1c : ∀ u ∈ news, u.oneCell' = true) (hm : 0 < m) (b1 : n + m ≤ maxLen) (b2 : (n + m) * bytes ≤ 140737488355328) (b3 : base ≤ w.heap.size)
    (hK : ∀ v' w', w'.ownsRow base e size v' (n + m) (xs ++ news) → w.grownBy w' v.ownBlock → (v' = .slice none 0 0 ↔ v = .slice none 0 0 ∧ m = 0) → (∀ b, w'.frozen? b = w.frozen? b) → wpListIn F k P ops Q rest (a.put o.dst v') w') :
    wpListIn F k P ops Q (o :: rest) a w := by
  refine wpListIn_plain hg fun K hK' => ?_
  obtain ⟨v', w', hrun, r1, r2, r3⟩ := run_append_own (P := P) w base t o.type e i z size bytes h1 h2 h3 h4 h5 h6 h7 v n xs hown ad m c news hn hc h1c b1 b2 b3
  subst h4; subst h5
  have hz := fun b => fz_append h1 h2 h3 hown hn hc h1c hm b1 b2 hrun b
  unfold Oper.wpIn
  refine ⟨?_, ?_⟩
  · simp [Oper.about, hop, resolve, Target.leads, Sem.run_pure]
  · rw [Oper.semAt_plain F _ _ (by rw [hop]; intro c hc'; cases hc')]
    simp [execOp, hop, resolve, invoke, builtin, hs, hx, hrun, Result.andThen]
    exact hK' _ _ (hK v' w' r1 r2 r3 hz)
end Go.Co
end

section
namespace Go.Proofs.YtplmbkgjaobhgaaDoor
open Go Go.Co Go.Co.N Go.Proofs Go.RowKit Go.Shelf
attribute [local go_sem] Oper.semAt_some

theorem low_walk {x : Nat} (h0 : 0 < x) (h1 : x < 18446744073709551616) : 0 ≤ IntKind.u64.wrap (Go.bits BinOp.and IntKind.u64 (x : Int) (IntKind.u64.wrap (-(x : Int))) * 285870213051353865) / 288230376151711744 ∧
    IntKind.u64.wrap (Go.bits BinOp.and IntKind.u64 (x : Int) (IntKind.u64.wrap (-(x : Int))) * 285870213051353865) / 288230376151711744 < 64 ∧
    tab64[(IntKind.u64.wrap (Go.bits BinOp.and IntKind.u64 (x : Int) (IntKind.u64.wrap (-(x : Int))) * 285870213051353865) / 288230376151711744).toNat]? = some (tzN x) := by
  have e1 : IntKind.u64.wrap (-(x : Int)) = ((18446744073709551616 - x : Nat) : Int) := by
    show (-(x : Int)) % 18446744073709551616 = _
    omega
  have e2 : Go.bits BinOp.and IntKind.u64 (x : Int) ((18446744073709551616 - x : Nat) : Int) = ((x &&& (18446744073709551616 - x) : Nat) : Int) := bw_and64 _ _ h1 (by omega)
  have e3 : IntKind.u64.wrap (((x &&& (18446744073709551616 - x) : Nat) : Int) * 285870213051353865) = (((x &&& (18446744073709551616 - x)) * 285870213051353865 % 18446744073709551616 : Nat) : Int) := by
    show (((x &&& (18446744073709551616 - x) : Nat) : Int) * 285870213051353865) % 18446744073709551616 = _
    omega
  have hlt : (x &&& (18446744073709551616 - x)) * 285870213051353865 % 18446744073709551616 < 18446744073709551616 := Nat.mod_lt _ (by omega)
  rw [e1, e2, e3]
  refine ⟨by omega, by omega, ?_⟩
  have := tab_low h0 (show x < 2 ^ 64 by omega)
  rw [show (((((x &&& (18446744073709551616 - x)) * 285870213051353865 % 18446744073709551616 : Nat) : Int)) / 288230376151711744).toNat = (x &&& (18446744073709551616 - x)) * 285870213051353865 % 18446744073709551616 / 288230376151711744 by omega]
  exact this
theorem glob_name : ∃ gl, Tryd.prog.globals[0]? = some gl ∧ gl.name = "math/bits.deBruijn64tab" := by
  have h : (Tryd.prog.globals[0]?.map (·.name)) = some "math/bits.deBruijn64tab" := by kernel_rfl
  cases hg : Tryd.prog.globals[0]? with
  | none => rw [hg] at h; cases h
  | some gl => rw [hg] at h; exact ⟨gl, rfl, Option.some.inj h⟩
theorem wrap_tz {x : Nat} (h0 : 0 < x) (h1 : x < 18446744073709551616) : wrap64 (tzN x : Int) = (tzN x : Int) := by
  have := (bitsL_cons h0 (show x < 2 ^ 64 by omega)).1
  exact Go.IntWalk.wrap64_in _ (by omega)
set_option maxHeartbeats 1000000 in
theorem tz_in (F : Fence) (n : Nat) (hF : F.fn 104) (hro : F.round = none) (x : Nat) (h0 : 0 < x) (h1 : x < 18446744073709551616) (w : World) (hg : GOK Tryd.prog w) :
    CallsIn F n Tryd.prog 104 #[.int .u64 (x : Int)] w fun e w' => e = .returned (.int .i64 (tzN x : Int)) ∧ w' = w := by
  obtain ⟨b1, b2, b3⟩ := low_walk h0 h1
  obtain ⟨gl, g1, g2⟩ := glob_name
  have hc := hg 0 gl g1 g2 _ _ b3
  have hx : ¬ (x : Int) = 0 := by omega
  have hx2 : ((x : Int) == 0) = false := by simpa using hx
  refine callsIn_of_wp Tryd.func104 rfl hF ?_ hro
  simp only [Tryd.ntmps104, List.size_toArray, List.length_cons, List.length_nil, Nat.reduceAdd, Nat.reduceSub, Array.replicate_succ, Array.replicate_zero, List.push_toArray, List.append_toArray, List.nil_append, List.cons_append]
  gi_wp2
  rw [wrap_tz h0 h1]
  go_ret
  exact ⟨rfl, rfl⟩

/-! ### The iterator -/
/-- What a box holds of a word. -/
def boxW (W : World) (B : Nat) : Nat := match W.cell? ⟨B, 0, none⟩ with | some (.int _ x) => x.toNat | _ => 0
theorem boxW_eq {W : World} {B x : Nat} {t : TypeId} (h : Boxed W B t (.int .u64 (x : Int))) : boxW W B = x := by
  unfold boxW; rw [h.cell]; simp
theorem pred_walk {x : Nat} (h0 : 0 < x) (h1 : x < 18446744073709551616) : Go.bits BinOp.and IntKind.u64 (x : Int) ((x : Int) - 1) = ((x &&& (x - 1) : Nat) : Int) := by
  have e1 : (x : Int) - 1 = ((x - 1 : Nat) : Int) := by omega
  rw [e1]
  exact bw_and64 _ _ h1 (by omega)
set_option maxRecDepth 100000 in
set_option maxHeartbeats 2000000 in
theorem each1_in (F : Fence) (n : Nat) (h103 : F.fn 103) (h104 : F.fn 104) (hro : F.round = none) (hn : 1 ≤ n) (l Be : Nat) (x0 : Nat) (hx0 : x0 < 18446744073709551616) (J Jx : List Nat → World → Prop)
    (hJ : ∀ pre A x v, J pre A → Boxed A Be 67 x → J pre (A.setCell ⟨Be, 0, none⟩ v)) (hJg : ∀ pre A, J pre A → GOK Tryd.prog A)
    (hY : ∀ (pre : List Nat) (x : Nat) W, J pre W → pre ++ [x] <+: bitsL x0 → YieldAt F (n - 1) Tryd.prog l #[.int .i64 (x : Int)] W fun e W' =>
      (e = .returned (.bool true) ∧ J (pre ++ [x]) W' ∧ W'.heap[Be]? = W.heap[Be]?) ∨ (e = .returned (.bool false) ∧ Jx (pre ++ [x]) W'))
    (W : World) (hBe : Boxed W Be 67 (.int .u64 (x0 : Int))) (h0 : J [] W) :
    CallsIn F n Tryd.prog 103 #[.func (.yield l) #[] #[], .pointer (some ⟨Be, 0, none⟩)] W fun e W' => (∃ v, e = .returned v) ∧ (J (bitsL x0) W' ∨ (∃ pre, pre <+: bitsL x0 ∧ Jx pre W')) := by
  refine callsIn_of_wp Tryd.func103 rfl h103 ?_ hro
  simp only [Tryd.ntmps103, List.size_toArray, List.length_cons, List.length_nil, Nat.reduceAdd, Nat.reduceSub, Array.replicate_succ, Array.replicate_zero, List.push_toArray, List.append_toArray, List.nil_append, List.cons_append]
  gi_wp2
  gi_loopw [] (fun wr => ∃ (pre : List Nat) (rem : Nat), bitsL x0 = pre ++ bitsL rem ∧ rem < 18446744073709551616 ∧ Boxed wr Be 67 (.int .u64 (rem : Int)) ∧ J pre wr)
    (fun wr => boxW wr Be)
  case atStart => exact ⟨[], x0, rfl, hx0, hBe, h0⟩
  case round =>
    obtain ⟨pre, rem, hx, hlt, hb, hJs⟩ := hrel
    have hc := hb.cell
    by_cases hz : rem = 0
    · subst hz
      have hz0 : (((0 : Nat) : Int) == 0) = true := rfl
      gi_wp2
      go_end0
      rw [bitsL_zero, List.append_nil] at hx
      exact ⟨⟨_, rfl⟩, .inl (by rw [hx]; exact hJs)⟩
    · have hz0 : (((rem : Nat) : Int) == 0) = false := by simpa using hz
      obtain ⟨k1, k2, k3⟩ := bitsL_cons (show 0 < rem by omega) (show rem < 2 ^ 64 by omega)
      have hpre : pre ++ [tzN rem] <+: bitsL x0 := ⟨bitsL (rem &&& (rem - 1)), by rw [hx, k2]; simp⟩
      obtain ⟨fn, tmps, assign, body, hy, hR⟩ := hY pre (tzN rem) wr hJs hpre
      gi_wp2_with (gi_at_call 104; refine (tz_in F (n - 1) h104 hro rem (by omega) hlt wr (hJg _ _ hJs)).mono ?_; rintro e w' ⟨rfl, rfl⟩)
      refine hR.mono ?_
      rintro e W3 (⟨rfl, hJ3, hk3⟩ | ⟨rfl, hJx3⟩)
      · have hb3 : Boxed W3 Be 67 (.int .u64 (rem : Int)) := hk3.trans hb
        have hc3 := hb3.cell
        have hf3 := hb3.frozen
        gi_wp2
        rw [pred_walk (by omega) hlt]
        go_roundw
        case rel => exact ⟨pre ++ [tzN rem], rem &&& (rem - 1), by rw [hx, k2]; simp, by omega, hb3.set _, hJ _ _ _ _ hJ3 hb3⟩
        case measure => rw [boxW_eq (hb3.set _), boxW_eq hb]; exact k3
      · gi_wp2
        refine bodyPost_ret (results_none rfl _ _ _) rfl ?_
        exact ⟨⟨_, rfl⟩, .inr ⟨pre ++ [tzN rem], hpre, hJx3⟩⟩
set_option maxHeartbeats 1000000 in
theorem each_in (F : Fence) (n : Nat) (hF : F.fn 101) (hro : F.round = none) (x : Int) (w : World) :
    CallsIn F n Tryd.prog 101 #[.int .u64 x] w fun e w' => e = .returned (.func (.func 103) #[] #[.pointer (some ⟨w.heap.size, 0, none⟩)]) ∧ w' = w.alloc (.cells #[.int .u64 x] 67) := by
  refine callsIn_of_wp Tryd.func101 rfl hF ?_ hro
  simp only [Tryd.ntmps101, List.size_toArray, List.length_cons, List.length_nil, Nat.reduceAdd, Nat.reduceSub, Array.replicate_succ, Array.replicate_zero, List.push_toArray, List.append_toArray, List.nil_append, List.cons_append]
  gi_wp2
  go_ret
  exact ⟨rfl, rfl⟩

/-! ### The least free slots -/
theorem count_calls (h : ConOK Tryd.prog 83 c_seats_Count) (s : Nat) (hs : s < 18446744073709551616) (w : World) (hg : GOK Tryd.prog w) :
    CallsIn Fence.wide 9 Tryd.prog 83 #[.int .u64 (s : Int)] w fun e w' => e = .returned (.int .i64 (cntW (s : Int))) ∧ Blw w.heap.size w w' := by
  refine callsIn_wide.2 (Calls.mono (h.run w (fun _ => False) ((s : Int), ()) [.int .u64 (s : Int)] _ hg (fun _ h => h.elim) ⟨⟨_, rfl, Rd.int.2 ⟨rfl, ?_⟩⟩, trivial⟩ rfl) ?_)
  · rw [inKind_iff]; show 0 ≤ (s : Int) ∧ (s : Int) ≤ 18446744073709551615; omega
  · rintro e w' ⟨z, rfl, hb, cs, hz, hr⟩
    have hr := (Rd.int.1 hr).1
    subst hr
    exact ⟨by rw [hz]; rfl, hb⟩
theorem bit_calls (h : ConOK Tryd.prog 102 c_seats_bit) (i : Nat) (hi : i < 64) (w : World) (hg : GOK Tryd.prog w) :
    CallsIn Fence.wide 7 Tryd.prog 102 #[.int .i64 (i : Int)] w fun e w' => e = .returned (.int .u64 ((2 ^ i : Nat) : Int)) ∧ Blw w.heap.size w w' := by
  refine callsIn_wide.2 (Calls.mono (h.run w (fun _ => False) ((i : Int), ()) [.int .i64 (i : Int)] _ hg (fun _ h => h.elim) ⟨⟨_, rfl, Rd.int.2 ⟨rfl, ?_⟩⟩, trivial⟩ rfl) ?_)
  · rw [inKind_iff]; show -9223372036854775808 ≤ (i : Int) ∧ (i : Int) ≤ 9223372036854775807; omega
  · rintro e w' ⟨z, rfl, hb, cs, hz, hr⟩
    have hr := (Rd.int.1 hr).1
    subst hr
    refine ⟨?_, hb⟩
    rw [hz]
    show Ending.returned (Value.int IntKind.u64 (bitOf (i : Int))) = _
    unfold bitOf
    rw [if_pos ⟨by omega, by omega⟩, Int.toNat_natCast]
/-- An answer of three. -/
def takeRes (W : World) (base : Nat) (z : Value) (l : List Nat) (s : Nat) : Prop := ∃ v, z = .tuple #[v, .int .u64 (s : Int), .int .i64 0] ∧ W.ownsRow base 3 1 v l.length (l.map fun (i : Nat) => Value.int .i64 (i : Int))
theorem region_key {F : Fence} {n : Nat} {P : Program} {c : Code} {K : Act → World → Prop} {X : Exit → Act → World → Prop} {a : Act} {w : World} (a' : Act) (Inv : World → Prop) (h1 : ∀ w', Inv w' → K a' w')
    (h2 : c.wpIn F n P (Exit.then (fun a w => a = a' ∧ Inv w) (fun _ _ _ => False)) a w) : c.wpIn F n P (Exit.then K X) a w :=
  Go.wpIn_mono h2 fun e a w h => by
    cases e with
    | normal => obtain ⟨rfl, h⟩ := h; exact h1 w h
    | _ => exact h.elim
theorem region_calm {F : Fence} {n : Nat} {P : Program} {c : Code} {K : Act → World → Prop} {X : Exit → Act → World → Prop} {a : Act} {w : World} (h : c.wpIn F n P (Exit.then K (fun _ _ _ => False)) a w) : c.wpIn F n P (Exit.then K X) a w :=
  Go.wpIn_mono h fun e a w h => by cases e <;> first | exact h | exact h.elim
theorem res87 (tmps : Array Value) (w : World) : (results Tryd.f87 tmps).run Tryd.prog w = .ok (.tuple #[tmps.getD 4 undef, tmps.getD 5 undef, tmps.getD 6 undef]) w := by
  simp [results, Tryd.f87, go_sem]
theorem compl_bits {s : Nat} (hs : s < 18446744073709551616) : Go.bits BinOp.xor IntKind.u64 IntKind.u64.max (s : Int) = ((18446744073709551615 - s : Nat) : Int) := by
  have hx : bw .xor .u64 ((18446744073709551615 : Nat) : Int) (s : Int) = ((18446744073709551615 ^^^ s : Nat) : Int) :=
    bwN (op := .xor) (f := fun a b => a ^^^ b) (fun a b ha hb => Nat.xor_lt_two_pow (n := 64) ha hb) (fun a b ha hb => by
      show (BitVec.ofNat 64 a ^^^ BitVec.ofNat 64 b).toNat = _
      simp [BitVec.toNat_xor, Nat.mod_eq_of_lt ha, Nat.mod_eq_of_lt hb]) _ _ (by omega) hs
  refine hx.trans ?_
  congr 1
  apply Nat.eq_of_testBit_eq
  intro i
  have h1 := Nat.testBit_two_pow_sub_one 64 i
  have h2 := Nat.testBit_two_pow_sub_succ (n := 64) (x := s) (by omega) i
  rw [Nat.testBit_xor, show (18446744073709551615 : Nat) = 2 ^ 64 - 1 from rfl, h1, show (2 : Nat) ^ 64 - 1 - s = 2 ^ 64 - (s + 1) by omega, h2]
  by_cases hi : i < 64
  · simp [hi]
  · have : s.testBit i = false := Nat.testBit_lt_two_pow (Nat.lt_of_lt_of_le (show s < 2 ^ 64 by omega) (Nat.pow_le_pow_right (by omega) (by omega)))
    simp [hi, this]
theorem bitI_nat (s i : Nat) : bitI (s : Int) i = s.testBit i := by
  unfold bitI
  rw [Nat.testBit_eq_decide_div_mod_eq]
  congr 1
  rw [show ((s : Int) / 2 ^ i) = ((s / 2 ^ i : Nat) : Int) by simp]
  simp only [eq_iff_iff]; omega
theorem bitsL_compl {s : Nat} (hs : s < 18446744073709551616) : bitsL (18446744073709551615 - s) = freeL (s : Int) := by
  unfold bitsL freeL
  refine List.filter_congr fun i hi => ?_
  have hi : i < 64 := by simpa using hi
  have h2 := Nat.testBit_two_pow_sub_succ (n := 64) (x := s) (by omega) i
  rw [show (18446744073709551615 : Nat) - s = 2 ^ 64 - (s + 1) by omega, h2, bitI_nat]
  simp [hi]
theorem freeL_len (s : Nat) : (freeL (s : Int)).length = 64 - cntW (s : Int) := by
  unfold freeL cntW
  rw [filter_cnt, filter_cnt]
  have := cntP_not (bitI (s : Int)) 64
  omega
theorem orL_snoc (s : Nat) (l : List Nat) (i : Nat) : orL s (l ++ [i]) = orL s l ||| 2 ^ i := by simp [orL]
theorem orL_lt {s : Nat} (hs : s < 18446744073709551616) : ∀ l : List Nat, (∀ i ∈ l, i < 64) → orL s l < 18446744073709551616 := by
  intro l
  induction l generalizing s with
  | nil => intro _; exact hs
  | cons i l ih =>
    intro h
    refine ih ?_ fun j hj => h j (List.mem_cons_of_mem _ hj)
    have h2 : (2 : Nat) ^ i < 2 ^ 64 := Nat.pow_lt_pow_right (by omega) (h i (List.mem_cons_self ..))
    exact Nat.or_lt_two_pow (n := 64) hs h2
theorem or_walk {a b : Nat} (ha : a < 18446744073709551616) (hb : b < 18446744073709551616) : Go.bits BinOp.or IntKind.u64 (a : Int) (b : Int) = ((a ||| b : Nat) : Int) := bw_or64 _ _ ha hb
theorem bitsL_lt {x i : Nat} (h : i ∈ bitsL x) : i < 64 := by
  unfold bitsL at h
  simp only [List.mem_filter, List.mem_range] at h
  exact h.1
/-- What the loop keeps. -/
def takeI (w : World) (s : Nat) (n : Int) (N0 Bo : Nat) (pre : List Nat) (W : World) : Prop :=
  Blw w.heap.size w W ∧ N0 ≤ W.heap.size ∧ Boxed W w.heap.size 67 (.int .u64 (orL s pre : Int)) ∧ Boxed W (w.heap.size + 1) 3 (.int .i64 n) ∧ pre.length ≤ n.toNat ∧ ∃ v, Boxed W Bo 40 v ∧ W.ownsRow N0 3 1 v pre.length (pre.map fun (i : Nat) => Value.int .i64 (i : Int))
theorem Boxed.putObj {A : World} {B : Nat} {t : TypeId} {v : Value} (h : Boxed A B t v) {l : Nat} {o o' : Obj} (hl : A.heap[l]? = some o) (ho : o.isCells = false) : Boxed (A.putObj l o') B t v := by
  have hne : B ≠ l := fun e => by
    rw [e] at h
    rw [show A.heap[l]? = _ from h] at hl
    cases hl; cases ho
  exact (World.putObj_heap_other hne).trans h
theorem ownsRow_base {W : World} {b b' : Nat} {e : TypeId} {size : Nat} {v : Value} {k : Nat} {xs : List Value} (h : W.ownsRow b e size v k xs) (hb : b' ≤ b) : W.ownsRow b' e size v k xs := by
  refine ⟨h.1, ?_⟩
  rcases h.2 with h | ⟨g, cap, cur, h1, h2, h3⟩
  · exact .inl h
  · exact .inr ⟨g, cap, cur, h1, by omega, h3⟩
theorem ownsRow_form {W : World} {b : Nat} {e : TypeId} {size : Nat} {v : Value} {k : Nat} {xs : List Value} (h : W.ownsRow b e size v k xs) : ∃ ad cap, v = .slice ad k cap := by
  rcases h.2 with ⟨rfl, rfl⟩ | ⟨g, cap, cur, rfl, _⟩
  · exact ⟨_, _, rfl⟩
  · exact ⟨_, _, rfl⟩
theorem keeps_blw {A B : World} (h : Blw A.heap.size A B) : KeepsOthers A B := ⟨h.size, fun j o ho _ => (h.block j (Array.getElem?_eq_some_iff.1 ho).1).trans ho⟩
theorem takeI_cl (w : World) (s : Nat) (n : Int) (N0 Bo n0 : Nat) (hn : w.heap.size ≤ n0) : Cl n0 (takeI w s n N0 Bo) := by
  constructor
  · rintro pre A o ho ⟨h1, h2, h3, h4, h5, v, h6, h7⟩
    refine ⟨⟨h1.toBelow.alloc h1.size o, fun a => (fz_alloc A o (fun _ _ _ e => by subst e; cases ho) a).trans (h1.fz a)⟩, by simp; omega, h3.alloc _, h4.alloc _, h5, v, h6.alloc _, h7.alloc _⟩
  · rintro pre A l o o' hl ⟨h1, h2, h3, h4, h5, v, h6, h7⟩ hlo ho ho'
    refine ⟨⟨⟨h1.os, h1.tape, h1.output, Nat.le_trans h1.size (grownBy_putObj' A l o').size, fun k hk => (World.putObj_heap_other (by omega)).trans (h1.block k hk)⟩, fun a => (fz_putObj A o' hlo ho ho' a).trans (h1.fz a)⟩, Nat.le_trans h2 (grownBy_putObj' A l o').size, Boxed.putObj h3 hlo ho, Boxed.putObj h4 hlo ho, h5, v, Boxed.putObj h6 hlo ho, ownsRow_putObj h7 _ hlo ho⟩
set_option maxRecDepth 100000 in
set_option maxHeartbeats 4000000 in
theorem take_in (hcn : ConOK Tryd.prog 83 c_seats_Count) (hbt : ConOK Tryd.prog 102 c_seats_bit) (s : Nat) (hs : s < 18446744073709551616) (n : Int) (hn : -9223372036854775808 ≤ n ∧ n ≤ 9223372036854775807) (w : World) (hg : GOK Tryd.prog w) :
    CallsIn Fence.wide 10 Tryd.prog 87 #[.int .u64 (s : Int), .int .i64 n] w fun e W' => ∃ z, e = .returned z ∧ Blw w.heap.size w W' ∧
      (n < 0 → z = .tuple #[.slice none 0 0, .int .u64 0, .int .i64 1]) ∧ (0 ≤ n → 64 - cntW (s : Int) < n → z = .tuple #[.slice none 0 0, .int .u64 0, .int .i64 18]) ∧
      (0 ≤ n → n ≤ 64 - cntW (s : Int) → takeRes W' w.heap.size z ((freeL (s : Int)).take n.toNat) (orL s ((freeL (s : Int)).take n.toNat))) := by
  refine callsIn_of_wp_marks Tryd.func87 rfl trivial ?_ rfl
  simp only [Tryd.ntmps87, List.size_toArray, List.length_cons, List.length_nil, Nat.reduceAdd, Nat.reduceSub, Array.replicate_succ, Array.replicate_zero, List.push_toArray, List.append_toArray, List.nil_append, List.cons_append]
  have hmx : Tryd.prog.follows .mixedOrders = true := by kernel_rfl
  gi_wp2
  · exact ⟨_, res87 _ _, _, rfl, ⟨((Below.refl _ w).alloc (Nat.le_refl _) _).alloc (by simp) _, fun a => (fz_alloc _ _ (fun _ _ _ h => by cases h; rfl) a).trans (fz_alloc _ _ (fun _ _ _ h => by cases h; rfl) a)⟩, fun _ => rfl, fun h => absurd h (by omega), fun h => absurd h (by omega)⟩
  · have bS : Boxed ((w.alloc (.cells #[.int .u64 (s : Int)] 67)).alloc (.cells #[.int .i64 n] 3)) w.heap.size 67 (.int .u64 (s : Int)) := (Boxed.new w 67 _).alloc _
    have bN : Boxed ((w.alloc (.cells #[.int .u64 (s : Int)] 67)).alloc (.cells #[.int .i64 n] 3)) (w.heap.size + 1) 3 (.int .i64 n) := by
      have := Boxed.new (w.alloc (.cells #[.int .u64 (s : Int)] 67)) 3 (.int .i64 n)
      rwa [World.size_alloc] at this
    have b0 : Blw w.heap.size w ((w.alloc (.cells #[.int .u64 (s : Int)] 67)).alloc (.cells #[.int .i64 n] 3)) := ⟨((Below.refl _ w).alloc (Nat.le_refl _) _).alloc (by simp) _, fun a => (fz_alloc _ _ (fun _ _ _ h => by cases h; rfl) a).trans (fz_alloc _ _ (fun _ _ _ h => by cases h; rfl) a)⟩
    generalize hW2 : (w.alloc (.cells #[.int .u64 (s : Int)] 67)).alloc (.cells #[.int .i64 n] 3) = W2 at *
    have hlt2 : w.heap.size + 2 ≤ W2.heap.size := by rw [← hW2]; simp
    have c1 := bS.cell
    have c2 := bN.cell
    have hg2 : GOK Tryd.prog W2 := hg.blw b0 (Nat.le_refl _)
    have hcw := cntW_le (s : Int)
    have hwr : IntKind.i64.wrap (64 - cntW (s : Int)) = 64 - cntW (s : Int) := i64_in _ (by omega)
    refine region_key { tmps := #[.int .u64 (s : Int), .int .i64 n, .pointer (some ⟨w.heap.size, 0, none⟩), .pointer (some ⟨w.heap.size + 1, 0, none⟩), .slice none 0 0, .int .u64 0, .int .i64 0, undef, undef, .bool (decide (n < 0)), .int .i64 n, .bool (decide (n < 0)), .bool (decide ((64 - cntW (s : Int)) < n)), .int .i64 n, .int .u64 (s : Int), .int .i64 (cntW (s : Int)), .int .i64 ((64 - cntW (s : Int))), .bool (decide ((64 - cntW (s : Int)) < n)), undef, undef, undef, undef, undef, undef, undef, undef, undef, undef, undef, undef, undef, undef, undef, undef, undef, undef], defers := [] }
      (fun w' => Blw w.heap.size w w' ∧ Boxed w' w.heap.size 67 (.int .u64 (s : Int)) ∧ Boxed w' (w.heap.size + 1) 3 (.int .i64 n)) ?_ ?_
    rotate_left
    · gi_region_with_o (refine ⟨trivial, ?_⟩; gi_at_call 83; refine (count_calls hcn s hs W2.drew hg2).mono ?_; rintro e w' ⟨rfl, hb⟩; have bS3 : Boxed w' w.heap.size 67 (.int .u64 (s : Int)) := (hb.block _ (show w.heap.size < W2.heap.size by omega)).trans bS; have bN3 : Boxed w' (w.heap.size + 1) 3 (.int .i64 n) := (hb.block _ (show w.heap.size + 1 < W2.heap.size by omega)).trans bN; have b3 : Blw w.heap.size w w' := (b0.trans ⟨(Below.refl _ W2).drew, fun _ => rfl⟩).trans (hb.mono (show w.heap.size ≤ W2.heap.size by omega)); have c3 := bS3.cell; have c4 := bN3.cell)
      all_goals exact ⟨rfl, b3, bS3, bN3⟩
    rintro w' ⟨b3, bS3, bN3⟩
    have c3 := bS3.cell
    have c4 := bN3.cell
    have bS4 := bS3.alloc (.cells #[.slice none 0 0] 40)
    have c5 := bS4.cell
    gi_wp2_with (refine ⟨trivial, ?_⟩; gi_at_call 101; refine (each_in Fence.wide 9 trivial rfl _ _).mono ?_; rintro e w2 ⟨rfl, rfl⟩)
    · exact ⟨_, res87 _ _, _, rfl, b3, fun h => absurd h (by omega), fun _ _ => rfl, fun _ h => absurd h (by omega)⟩
    · rw [compl_bits hs]
      have hle : w.heap.size + 2 ≤ w'.heap.size := by have := bN3.lt; omega
      have bS5 := bS4.alloc (.cells #[.int .u64 ((18446744073709551615 - s : Nat) : Int)] 67)
      have bN5 := (bN3.alloc (.cells #[.slice none 0 0] 40)).alloc (.cells #[.int .u64 ((18446744073709551615 - s : Nat) : Int)] 67)
      have bO5 := (Boxed.new w' 40 (.slice none 0 0)).alloc (.cells #[.int .u64 ((18446744073709551615 - s : Nat) : Int)] 67)
      have bE5 := Boxed.new (w'.alloc (.cells #[.slice none 0 0] 40)) 67 (.int .u64 ((18446744073709551615 - s : Nat) : Int))
      rw [World.size_alloc] at bE5
      have hB5 : Blw w.heap.size w ((w'.alloc (.cells #[.slice none 0 0] 40)).alloc (.cells #[.int .u64 ((18446744073709551615 - s : Nat) : Int)] 67)) := ⟨(b3.toBelow.alloc b3.size _).alloc (by simp; exact Nat.le_succ_of_le b3.size) _, fun a => ((fz_alloc _ _ (fun _ _ _ h => by cases h; rfl) a).trans (fz_alloc _ _ (fun _ _ _ h => by cases h; rfl) a)).trans (b3.fz a)⟩
      have hsz : ((w'.alloc (.cells #[.slice none 0 0] 40)).alloc (.cells #[.int .u64 ((18446744073709551615 - s : Nat) : Int)] 67)).heap.size = w'.heap.size + 2 := by simp
      generalize (w'.alloc (.cells #[.slice none 0 0] 40)).alloc (.cells #[.int .u64 ((18446744073709551615 - s : Nat) : Int)] 67) = W0 at *
      obtain ⟨i0, hi, hz0, hz1, hz2⟩ := info_parts (show (Tryd.prog.info? 3).map (fun i => (i.zero, i.size, i.bytes)) = some (some (.int .i64 0), 1, 8) by kernel_rfl)
      refine rangeFunc_box (n := 10) rfl (by omega) (gf := 103) (lb := #[.pointer (some ⟨w'.heap.size + 1, 0, none⟩)]) rfl trivial (enters_of Tryd.func103 (by kernel_rfl) rfl) (encs := fun x : Nat => #[Value.int .i64 (x : Int)]) (Be := w'.heap.size + 1) (tB := 67) (xB := .int .u64 ((18446744073709551615 - s : Nat) : Int)) (G := GOK Tryd.prog) (xs := bitsL (18446744073709551615 - s)) (fun _ => rfl)
        (fun l J Jx W hJ hG hY hB h0 => each1_in Fence.wide 9 trivial trivial rfl (by omega) l (w'.heap.size + 1) _ (by omega) J Jx hJ hG hY W hB h0)
        bE5 (takeI w s n W0.heap.size w'.heap.size) (fun c pre W => c = .exit 1 ∧ ∃ (pre0 : List Nat) (x : Nat), pre = pre0 ++ [x] ∧ pre0.length = n.toNat ∧ takeI w s n W0.heap.size w'.heap.size pre0 W)
        (takeI_cl w s n _ _ _ (by omega)) (fun c => ⟨fun pre A o ho ⟨h1, pre0, x, h2, h3, h4⟩ => ⟨h1, pre0, x, h2, h3, (takeI_cl w s n _ _ W0.heap.size (by omega)).alloc _ _ _ ho h4⟩, fun pre A l o o' hl ⟨h1, pre0, x, h2, h3, h4⟩ hlo ho ho' => ⟨h1, pre0, x, h2, h3, (takeI_cl w s n _ _ W0.heap.size (by omega)).putObj _ _ _ _ _ hl h4 hlo ho ho'⟩⟩)
        ?set (fun pre A h => hg.blw h.1 (Nat.le_refl _)) ⟨hB5, Nat.le_refl _, bS5, bN5, by simp, _, bO5, World.ownsRow_nil _ _ _ _⟩
        (fun x => { tmps := #[.int .u64 (s : Int), .int .i64 n, .pointer (some ⟨w.heap.size, 0, none⟩), .pointer (some ⟨w.heap.size + 1, 0, none⟩), .slice none 0 0, .int .u64 0, .int .i64 0, .pointer (some ⟨w'.heap.size, 0, none⟩), .int .i64 (x : Int), .bool (decide (n < 0)), .int .i64 n, .bool (decide (n < 0)), .bool (decide ((64 - cntW (s : Int)) < n)), .int .i64 n, .int .u64 (s : Int), .int .i64 (cntW (s : Int)), .int .i64 (64 - cntW (s : Int)), .bool (decide ((64 - cntW (s : Int)) < n)), .int .u64 (s : Int), .int .u64 ((18446744073709551615 - s : Nat) : Int), .func (.func 103) #[] #[.pointer (some ⟨w'.heap.size + 1, 0, none⟩)], .int .i64 (x : Int), undef, undef, undef, undef, undef, undef, undef, undef, undef, undef, undef, undef, undef, undef], defers := [] })
        ?assign ?body ?done ?stop
      case set =>
        rintro pre A x v ⟨h1, h2, h3, h4, h5, v', h6, h7⟩ hb
        have oth : ∀ {B : Nat} {t : TypeId} {u : Value}, B ≠ w'.heap.size + 1 → Boxed A B t u → Boxed (A.setCell ⟨w'.heap.size + 1, 0, none⟩ v) B t u := fun hne h => (Below.heap_setCell _ _ _ _ hne).trans h
        refine ⟨⟨h1.toBelow.setCell (p := ⟨w'.heap.size + 1, 0, none⟩) (show w.heap.size ≤ w'.heap.size + 1 by omega) _, fun a => (fz_set _ _ _ a).trans (h1.fz a)⟩, Nat.le_trans h2 (grownBy_setCell' A _ v).size, oth (by omega) h3, oth (by omega) h4, h5, v', oth (by omega) h6, h7.kept (grownBy_setCell' A _ v) ?_⟩
        rcases h7.2 with ⟨rfl, _⟩ | ⟨g, cap, cur, rfl, hbg, _⟩
        · exact .inl rfl
        · exact .inr (by simp [Value.ownBlock]; omega)
      case assign =>
        intro l x W K hK
        gi_wp2
        exact hK
      case body =>
        rintro l pre x W ⟨h1, h2, h3, h4, h5, v, h6, h7⟩ hpre
        have hx64 : x < 64 := bitsL_lt (hpre.subset (List.mem_append.2 (.inr (by simp))))
        have hp64 : ∀ i ∈ pre, i < 64 := fun i hi => bitsL_lt (hpre.subset (List.mem_append.2 (.inl hi)))
        have hol := orL_lt hs pre hp64
        have hxp : (2 : Nat) ^ x < 18446744073709551616 := Nat.pow_lt_pow_right (by omega) hx64
        have hplen : pre.length ≤ 64 := by
          have := hpre.length_le
          have h2 : (bitsL (18446744073709551615 - s)).length ≤ 64 := by unfold bitsL; have := List.length_filter_le (fun i => (18446744073709551615 - s).testBit i) (List.range 64); simpa using this
          simp at this; omega
        have hml : (65 : Nat) ≤ maxLen := by decide
        obtain ⟨ad, cap, rfl⟩ := ownsRow_form h7
        have k3 := h3.cell
        have k4 := h4.cell
        have k6 := h6.cell
        have k3f := h3.frozen
        have k6f := h6.frozen
        gi_wp2_with (gi_at_builtin; refine wpListIn_append_fz _ rfl _ _ 40 rfl W0.heap.size 3 i0 (.int .i64 0) 1 8 Tryd.underlying40 hi hz0 hz1 hz2 rfl (by decide) _ _ _ rfl (h7.alloc _) ⟨W.heap.size, 0, none⟩ 1 1 [.int .i64 (x : Int)] rfl rfl (cell_one_new _ _ _) (by simp [Value.oneCell']) (by omega) (by omega) (by omega) (by simp; omega) ?_; intro v' w1 hown' hgrow _ hfz; obtain ⟨g', cap', rfl⟩ := ownsRow_succ hown'; obtain ⟨hv1, hv2, hr2, hk2, hb2⟩ := h6.appended (by decide) (ownsRow_base h7 (show w'.heap.size ≤ W0.heap.size by omega)) (by omega) (Nat.le_refl _) (ownsRow_base hown' (show w'.heap.size ≤ W0.heap.size by omega)) hgrow; have hB3 : Blw w'.heap.size W (w1.setCell ⟨w'.heap.size, 0, none⟩ (.slice (some ⟨g', 0, none⟩) (pre.length + 1) cap')) := ⟨hb2, fun a => (fz_set _ _ _ a).trans ((hfz a).trans (fz_alloc _ _ (fun _ _ _ h => by cases h; rfl) a))⟩; clear hfz; have hc1 := hv1.cell; have hf1 := hv1.frozen)
        · refine ⟨KeepsOthers.refl _, rfl, pre, x, rfl, ?_, h1, h2, h3, h4, h5, _, h6, h7⟩
          have : ((pre.length : Int) == n) = true := by assumption
          have := eq_of_beq this
          omega
        · have hBe : (w1.setCell ⟨w'.heap.size, 0, none⟩ (.slice (some ⟨g', 0, none⟩) (pre.length + 1) cap')).heap[w'.heap.size + 1]? = W.heap[w'.heap.size + 1]? := by
            have hgr : World.grownBy _ w1 (Value.slice ad pre.length cap).ownBlock := hgrow
            refine (Below.heap_setCell _ _ _ _ (by simp)).trans ((hgr.block _ (by simp; omega) ?_).trans (Below.heap_alloc _ _ _ (by omega)))
            rcases h7.2 with ⟨e, _⟩ | ⟨g, cap2, cur, e, hbg, _⟩
            · rw [e]; simp [Value.ownBlock]
            · rw [e]; simp [Value.ownBlock]; omega
          have hne : pre.length ≠ n.toNat := fun e => by
            have : ((pre.length : Int) == n) = false := by assumption
            rw [beq_eq_false_iff_ne] at this
            omega
          have hr3 := hown'.kept (grownBy_setCell' w1 w'.heap.size (.slice (some ⟨g', 0, none⟩) (pre.length + 1) cap')) (.inr (hv1.not_row (by decide) hown').symm)
          have s3 := (hB3.block _ (show w.heap.size < w'.heap.size by omega)).trans h3
          have n3 := (hB3.block _ (show w.heap.size + 1 < w'.heap.size by omega)).trans h4
          have B3 : Blw w.heap.size w (w1.setCell ⟨w'.heap.size, 0, none⟩ (.slice (some ⟨g', 0, none⟩) (pre.length + 1) cap')) := h1.trans (hB3.mono (by omega))
          have sz3 : W0.heap.size ≤ (w1.setCell ⟨w'.heap.size, 0, none⟩ (.slice (some ⟨g', 0, none⟩) (pre.length + 1) cap')).heap.size := Nat.le_trans h2 hB3.size
          generalize w1.setCell ⟨w'.heap.size, 0, none⟩ (.slice (some ⟨g', 0, none⟩) (pre.length + 1) cap') = W3 at *
          have s3b : Boxed W3 w.heap.size 67 (.int .u64 (orL s pre : Int)) := s3
          have n3b : Boxed W3 (w.heap.size + 1) 3 (.int .i64 n) := n3
          have q1 := s3b.cell
          have q2 := s3b.frozen
          have B3d : Blw w.heap.size w W3.drew := B3.trans ⟨(Below.refl _ W3).drew, fun _ => rfl⟩
          have hg3 : GOK Tryd.prog W3.drew := hg.blw B3d (Nat.le_refl _)
          have fin : ∀ w4, Blw W3.heap.size W3.drew w4 → KeepsOthers W (w4.setCell ⟨w.heap.size, 0, none⟩ (.int .u64 (Go.bits BinOp.or IntKind.u64 (orL s pre : Int) (2 ^ x)))) ∧ (w4.setCell ⟨w.heap.size, 0, none⟩ (.int .u64 (Go.bits BinOp.or IntKind.u64 (orL s pre : Int) (2 ^ x)))).heap[w'.heap.size + 1]? = W.heap[w'.heap.size + 1]? ∧
              takeI w s n W0.heap.size w'.heap.size (pre ++ [x]) (w4.setCell ⟨w.heap.size, 0, none⟩ (.int .u64 (Go.bits BinOp.or IntKind.u64 (orL s pre : Int) (2 ^ x)))) := fun w4 hb4 => by
            have e2 : ((2 : Int) ^ x) = ((2 ^ x : Nat) : Int) := by simp
            rw [e2, or_walk hol hxp, ← orL_snoc]
            have s4 : Boxed w4 w.heap.size 67 (.int .u64 (orL s pre : Int)) := (hb4.block _ (show w.heap.size < W3.heap.size by omega)).trans s3b
            have n4 : Boxed w4 (w.heap.size + 1) 3 (.int .i64 n) := (hb4.block _ (show w.heap.size + 1 < W3.heap.size by omega)).trans n3b
            have o4 : Boxed w4 w'.heap.size 40 (.slice (some ⟨g', 0, none⟩) (pre.length + 1) cap') := (hb4.block _ (show w'.heap.size < W3.heap.size by omega)).trans hv2
            have hgl : g' < W3.heap.size := by
              rcases hr3.2 with ⟨e, _⟩ | ⟨g, cap2, cur, e, _, hgb, _⟩
              · cases e
              · cases e; exact (Array.getElem?_eq_some_iff.1 hgb).1
            have r4 : w4.ownsRow W0.heap.size 3 1 (.slice (some ⟨g', 0, none⟩) (pre.length + 1) cap') (pre.length + 1) ((pre.map fun (i : Nat) => Value.int .i64 (i : Int)) ++ [Value.int .i64 (x : Int)]) := by
              refine ⟨hr3.1, ?_⟩
              rcases hr3.2 with ⟨e, _⟩ | ⟨g, cap2, cur, e, k1, hgb, k2⟩
              · cases e
              · cases e
                exact .inr ⟨g', cap', cur, rfl, k1, (hb4.block _ hgl).trans hgb, k2⟩
            refine ⟨(hk2.trans (KeepsOthers.drew W3)).trans ((keeps_blw (A := W3.drew) hb4).trans (KeepsOthers.setCell _ _ _)), (Below.heap_setCell _ _ _ _ (by simp; omega)).trans ((hb4.block _ (show w'.heap.size + 1 < W3.heap.size by omega)).trans hBe), ?_⟩
            have b4 : Blw w.heap.size w w4 := B3d.trans (hb4.mono (by omega))
            refine ⟨⟨b4.toBelow.setCell (p := ⟨w.heap.size, 0, none⟩) (Nat.le_refl _) _, fun a => (fz_set _ _ _ a).trans (b4.fz a)⟩, Nat.le_trans (Nat.le_trans sz3 hb4.size) (grownBy_setCell' w4 _ _).size, s4.set _, (Below.heap_setCell _ _ _ _ (by simp)).trans n4, by simp; omega, _, (Below.heap_setCell _ _ _ _ (by simp; omega)).trans o4, ?_⟩
            have := r4.kept (grownBy_setCell' w4 w.heap.size (.int .u64 (orL s (pre ++ [x]) : Int))) (.inr (s4.not_row (by decide) r4).symm)
            simpa using this
          gi_region_with_o (refine ⟨trivial, ?_⟩; gi_at_call 102; refine (CallsIn.inRound l (bit_calls hbt x hx64 W3.drew hg3)).mono ?_; rintro e w4 ⟨rfl, hb4⟩; have s4 : Boxed w4 w.heap.size 67 (.int .u64 (orL s pre : Int)) := (hb4.block _ (show w.heap.size < W3.heap.size by omega)).trans s3b; have q3 := s4.cell; have q4 := s4.frozen)
          all_goals (gi_wp2; exact fin w4 hb4)
      case done =>
        rintro D W hT hK hD
        rw [bitsL_compl hs] at hT
        have hnn : 0 ≤ n := by omega
        have hlen := freeL_len s
        have h5' := hT.2.2.2.2.1
        have hall : (freeL (s : Int)).take n.toNat = freeL (s : Int) := List.take_of_length_le (by omega)
        obtain ⟨h1, h2, h3, h4, h5, v, h6, h7⟩ := hT
        obtain ⟨ad, cap, rfl⟩ := ownsRow_form h7
        have k3 := h3.cell
        have k6 := h6.cell
        gi_wp2
        refine region_calm ?_
        gi_region_with_o (fail)
        all_goals gi_wp2
        all_goals refine ⟨by simp, .inl ⟨_, _, rfl, run_takeDeferred (show W.drew.heap[D]? = _ from hK), ?_⟩⟩
        all_goals refine ⟨_, res87 _ _, _, rfl, ⟨⟨h1.os, h1.tape, h1.output, Nat.le_trans h1.size (grownBy_putObj' W.drew D (.deferred none)).size, fun k hk => (World.putObj_heap_other (by omega)).trans (h1.block k hk)⟩, fun a => (fz_putObj W.drew (.deferred none) hK rfl rfl a).trans (h1.fz a)⟩, fun h => absurd h (by omega), fun _ h => absurd h (by omega), fun _ _ => ?_⟩
        all_goals rw [hall]
        all_goals exact ⟨_, rfl, ownsRow_putObj (ownsRow_base h7 (by omega)) _ hK rfl⟩
      case stop =>
        rintro D c pre W hpre ⟨rfl, pre0, x, rfl, hl, hT⟩ hK hD
        rw [bitsL_compl hs] at hpre
        have hnn : 0 ≤ n := by omega
        have hall : (freeL (s : Int)).take n.toNat = pre0 := by
          obtain ⟨r, hr⟩ := hpre
          rw [← hr, ← hl]; simp
        clear hl
        obtain ⟨h1, h2, h3, h4, h5, v, h6, h7⟩ := hT
        obtain ⟨ad, cap, rfl⟩ := ownsRow_form h7
        have k3 := h3.cell
        have k6 := h6.cell
        gi_wp2
        refine region_calm ?_
        gi_region_with_o (fail)
        all_goals gi_wp2
        all_goals refine ⟨by simp, .inl ⟨_, _, rfl, run_takeDeferred (show W.drew.heap[D]? = _ from hK), ?_⟩⟩
        all_goals refine ⟨_, res87 _ _, _, rfl, ⟨⟨h1.os, h1.tape, h1.output, Nat.le_trans h1.size (grownBy_putObj' W.drew D (.deferred none)).size, fun k hk => (World.putObj_heap_other (by omega)).trans (h1.block k hk)⟩, fun a => (fz_putObj W.drew (.deferred none) hK rfl rfl a).trans (h1.fz a)⟩, fun h => absurd h (by omega), fun _ h => absurd h (by omega), fun _ _ => ?_⟩
        all_goals rw [hall]
        all_goals exact ⟨_, rfl, ownsRow_putObj (ownsRow_base h7 (by omega)) _ hK rfl⟩
theorem res_take {W : World} {im : Nat → Prop} {v : Value} {l : List Int} {s e : Int} {cs : List Value} (h1 : v = pk false cs) (h2 : Rd W im (.list .i) l cs) (hs : inKind .u64 s = true) (he : inKind .i64 e = true) :
    RV ⟨fun _ => none, W, im⟩ (resAV [.list .i, .int .u64, .i] (l, s, e, ())) (.tuple #[v, .int .u64 s, .int .i64 e]) := by
  refine ⟨[v, .int .u64 s, .int .i64 e], rfl, cs, _, ?_, h2, [.int .u64 s], _, rfl, Rd.int.2 ⟨rfl, hs⟩, [.int .i64 e], _, rfl, Rd.int.2 ⟨rfl, he⟩, rfl⟩
  rw [h1]; rfl
theorem row_ints {W : World} {base : Nat} {v : Value} {l : List Nat} (h : W.ownsRow base 3 1 v l.length (l.map fun (i : Nat) => Value.int .i64 (i : Int))) (hl : ∀ i ∈ l, i < 64) (hn : l.length ≤ 64) (im : Nat → Prop) (him : ∀ k, base ≤ k → k < W.heap.size → im k) :
    ∃ cs, v = pk false cs ∧ Rd W im (.list .i) (l.map fun (i : Nat) => (i : Int)) cs := by
  have hb : List.length (l.map fun (i : Nat) => (i : Int)) * Ty.bytes .i ≤ top := by
    rw [List.length_map]
    have : (64 : Nat) * Ty.bytes .i ≤ top := by decide
    exact Nat.le_trans (Nat.mul_le_mul_right _ hn) this
  rcases h.2 with ⟨rfl, h0⟩ | ⟨g, cap, cur, rfl, hbg, hg, hc, hcm, hsz, htk⟩
  · refine ⟨[.slice none 0 0], rfl, Rd.list.2 ⟨hb, .inl ⟨rfl, ?_⟩⟩⟩
    rw [List.length_eq_zero_iff.1 h0]; rfl
  · refine ⟨[.slice (some ⟨g, 0, none⟩) l.length cap], rfl, Rd.list.2 ⟨hb, .inr ⟨⟨g, 0, none⟩, cap, l.map fun (i : Nat) => [Value.int .i64 (i : Int)], by rw [List.length_map], fun _ => rfl, by rw [List.length_map]; exact hc, hcm, ?_, fun _ => him g hbg (Array.getElem?_eq_some_iff.1 hg).1, ?_⟩⟩⟩
    · clear h hn hb hc htk hsz
      induction l with
      | nil => trivial
      | cons i l ih =>
        refine ⟨Rd.int.2 ⟨rfl, ?_⟩, ih fun j hj => hl j (List.mem_cons_of_mem _ hj)⟩
        have := hl i (List.mem_cons_self ..)
        rw [inKind_iff]; show -9223372036854775808 ≤ (i : Int) ∧ (i : Int) ≤ 9223372036854775807; omega
    · intro j x hj
      have hfl : (l.map fun (i : Nat) => [Value.int .i64 (i : Int)]).flatten = l.map fun (i : Nat) => Value.int .i64 (i : Int) := by
        clear h hl hn hb hc htk hsz hj
        induction l with
        | nil => rfl
        | cons i l ih => simp [ih]
      rw [hfl, ← htk] at hj
      have hj2 : cur.toList[j]? = some x := by
        rw [List.getElem?_take] at hj
        split at hj
        · exact hj
        · cases hj
      have : cur[j]? = some x := by rw [← Array.getElem?_toList]; exact hj2
      simp [World.cell?, hg, this]
theorem ok_seats_Take_of (hcn : ConOK Tryd.prog 83 c_seats_Count) (hbt : ConOK Tryd.prog 102 c_seats_bit) : ConOK Tryd.prog 87 c_seats_Take := by
  refine ⟨FnOK.of Tryd.func87 rfl (by kernel_rfl), ?_, ?_⟩
  · decide
  · intro w I x xs y hg hI hx hxy
    obtain ⟨s, n, u⟩ := x
    change Int at s; change Int at n
    match xs, hx with
    | [a, b], hx =>
      obtain ⟨⟨c1, rfl, r1⟩, ⟨c2, rfl, r2⟩, _⟩ := hx
      obtain ⟨rfl, k1⟩ := Rd.int.1 r1
      obtain ⟨rfl, k2⟩ := Rd.int.1 r2
      rw [inKind_iff] at k1 k2
      have k1 : 0 ≤ s ∧ s ≤ 18446744073709551615 := k1
      have k2 : -9223372036854775808 ≤ n ∧ n ≤ 9223372036854775807 := k2
      obtain ⟨s, rfl⟩ : ∃ m : Nat, s = (m : Int) := ⟨s.toNat, by omega⟩
      have hs : s < 18446744073709551616 := by omega
      refine Calls.mono (callsIn_wide.1 (take_in hcn hbt s hs n k2 w hg)) ?_
      rintro e W ⟨z, rfl, hb, h1, h2, h3⟩
      refine ⟨z, rfl, hb, ?_⟩
      have hy : takeW (s : Int) n = (y.1, y.2.1, y.2.2.1) := by
        have : some ((takeW (s : Int) n).1, (takeW (s : Int) n).2.1, (takeW (s : Int) n).2.2, ()) = some y := hxy
        obtain rfl := Option.some.inj this
        rfl
      obtain ⟨yl, ys, ye, yu⟩ := y
      change takeW (s : Int) n = (yl, ys, ye) at hy
      unfold takeW at hy
      have hnil : ∀ im, Rd W im (.list .i) [] [.slice none 0 0] := fun im => Rd.list.2 ⟨by simp, .inl ⟨rfl, rfl⟩⟩
      by_cases hn : n < 0
      · rw [if_pos hn] at hy
        cases hy
        rw [h1 hn]
        exact res_take rfl (hnil _) (by decide) (by decide)
      · rw [if_neg hn] at hy
        by_cases hc : 64 - cntW (s : Int) < n
        · rw [if_pos hc] at hy
          cases hy
          rw [h2 (by omega) hc]
          exact res_take rfl (hnil _) (by decide) (by decide)
        · rw [if_neg hc] at hy
          cases hy
          obtain ⟨v, rfl, hr⟩ := h3 (by omega) (by omega)
          have hl64 : ∀ i ∈ (freeL (s : Int)).take n.toNat, i < 64 := fun i hi => by
            have := List.mem_of_mem_take hi
            unfold freeL at this
            simp only [List.mem_filter, List.mem_range] at this
            exact this.1
          have hlen : ((freeL (s : Int)).take n.toNat).length ≤ 64 := by
            have h1 := freeL_len s
            have h2 := List.length_take_le n.toNat (freeL (s : Int))
            have h3 := (cntW_le (s : Int)).1
            have h4 : ((freeL (s : Int)).take n.toNat).length ≤ (freeL (s : Int)).length := by rw [List.length_take]; omega
            omega
          obtain ⟨cs, e1, e2⟩ := row_ints hr hl64 hlen (fun k => k < W.heap.size ∧ (k < w.heap.size → I k)) (fun k a b => ⟨b, fun h => absurd h (by omega)⟩)
          have := orL_lt hs _ hl64
          refine res_take e1 e2 ?_ (by decide)
          rw [inKind_iff]; show 0 ≤ ((orL s _ : Nat) : Int) ∧ ((orL s _ : Nat) : Int) ≤ 18446744073709551615
          omega
end Go.Proofs.YtplmbkgjaobhgaaDoor
end

section
set_option maxRecDepth 100000
noncomputable section
namespace Go.Co.N
open Go Go.Co
def g_roster_Move_r1 : (Int × Int × Unit × Unit × Unit × List Seat × Unit × List Int × Int × Int × Unit) × (Vector Entry 64 × Batch × Vector Entry 64 × Unit) × Unit → Option (((Int × Int × Unit × Unit × Unit × List Seat × Unit × List Int × Int × Int × Unit) × (Vector Entry 64 × Batch × Vector Entry 64 × Unit) × Unit) ⊕ ((Int × Int × Unit × Unit × Unit × List Seat × Unit × Unit) × (Vector Entry 64 × Batch × Vector Entry 64 × Unit) × Unit))
  | ((a, b, _, _, _, c, _, d, e, f, _), (g, h, i, _), _) => bif decide (f < e) then bif decide (0 ≤ f) && decide (f < (↑(List.length d) : Int)) then bif decide (0 ≤ findR g (lat d f)) && decide (findR g (lat d f) < 64) then bif decide ((List.length c + 1) * 16 ≤ 140737488355328) then some (Sum.inl ((a, b, (), (), (), List.append c [Seat.mk (lat d f) (findR g (lat d f))], (), d, e, IntKind.wrap IntKind.i64 (f + 1), ()), (Arr.put g (findR g (lat d f)) (Entry.mk 0 0 0), h, i, ()), ())) else none else none else none else some (Sum.inr ((a, b, (), (), (), c, (), ()), (g, h, i, ()), ()))
def g_roster_Move_r2 : (Int × Int × Unit × Unit × Unit × List Seat × List Seat × List Int × Int × Int × Unit) × (Vector Entry 64 × Batch × Vector Entry 64 × Unit) × Unit → Option (((Int × Int × Unit × Unit × Unit × List Seat × List Seat × List Int × Int × Int × Unit) × (Vector Entry 64 × Batch × Vector Entry 64 × Unit) × Unit) ⊕ ((Unit × Unit × List Seat × List Seat × Unit) × (Vector Entry 64 × Vector Entry 64 × Unit) × Unit))
  | ((a, b, _, _, _, c, d, e, f, g, _), (h, i, j, _), _) => bif decide (g < f) then bif decide (0 ≤ g) && decide (g < (↑(List.length e) : Int)) then bif decide (0 ≤ g) && decide (g < (↑(List.length i.Joins) : Int)) then bif decide (0 ≤ lat e g) && decide (lat e g < 64) then bif decide (0 ≤ g) && decide (g < (↑(List.length i.Joins) : Int)) then bif decide ((List.length d + 1) * 16 ≤ 140737488355328) then some (Sum.inl ((a, b, (), (), (), c, List.append d [Seat.mk (lat i.Joins g) (lat e g)], e, f, IntKind.wrap IntKind.i64 (g + 1), ()), (Arr.put h (lat e g) (Entry.mk (lat i.Joins g) (IntKind.wrap IntKind.i64 (b + g)) a), i, j, ()), ())) else none else none else none else none else none else some (Sum.inr (((), (), c, d, ()), (h, j, ()), ()))
/-- coterie/roster.Move -/
def g_roster_Move : Vector Entry 64 × Batch × Int × Int × Unit → Option (Vector Entry 64 × List Seat × List Seat × Int × Unit)
  | (a, b, c, d, _) => bif !decide (fits a b = 0) then bif !decide (fits a b = 0) then some (Vector.replicate 64 (St.zero St.entry), [], [], fits a b, ()) else Option.bind (lfp g_roster_Move_r1 ((c, d, (), (), (), [], (), b.Leaves, (↑(List.length b.Leaves) : Int), 0, ()), (a, b, Vector.replicate 64 (St.zero St.entry), ()), ())) fun z => Option.bind (lfp g_roster_Move_r2 ((z.fst.fst, z.fst.snd.fst, (), (), (), z.fst.snd.snd.snd.snd.snd.fst, [], (takeW (N.taken z.snd.fst.fst) (↑(List.length z.snd.fst.snd.fst.Joins) : Int)).fst, (↑(List.length (takeW (N.taken z.snd.fst.fst) (↑(List.length z.snd.fst.snd.fst.Joins) : Int)).fst) : Int), 0, ()), (z.snd.fst.fst, z.snd.fst.snd.fst, z.snd.fst.snd.snd.fst, ()), ())) fun z => some (z.snd.fst.fst, z.fst.snd.snd.fst, z.fst.snd.snd.snd.fst, 0, ()) else bif decide (c < 1) then some (Vector.replicate 64 (St.zero St.entry), [], [], 19, ()) else bif decide (200 < c) then some (Vector.replicate 64 (St.zero St.entry), [], [], 19, ()) else Option.bind (bif decide (0 ≤ (↑(List.length b.Joins) : Int)) && decide ((↑(List.length b.Joins) : Int) ≤ 64) then some (namesFree a d (↑(List.length b.Joins) : Int), ()) else none) fun y => bif !y.fst then some (Vector.replicate 64 (St.zero St.entry), [], [], 3, ()) else bif !decide (fits a b = 0) then some (Vector.replicate 64 (St.zero St.entry), [], [], fits a b, ()) else Option.bind (lfp g_roster_Move_r1 ((c, d, (), (), (), [], (), b.Leaves, (↑(List.length b.Leaves) : Int), 0, ()), (a, b, Vector.replicate 64 (St.zero St.entry), ()), ())) fun z => Option.bind (lfp g_roster_Move_r2 ((z.fst.fst, z.fst.snd.fst, (), (), (), z.fst.snd.snd.snd.snd.snd.fst, [], (takeW (N.taken z.snd.fst.fst) (↑(List.length z.snd.fst.snd.fst.Joins) : Int)).fst, (↑(List.length (takeW (N.taken z.snd.fst.fst) (↑(List.length z.snd.fst.snd.fst.Joins) : Int)).fst) : Int), 0, ()), (z.snd.fst.fst, z.snd.fst.snd.fst, z.snd.fst.snd.snd.fst, ()), ())) fun z => some (z.snd.fst.fst, z.fst.snd.snd.fst, z.fst.snd.snd.snd.fst, 0, ())
/-- coterie/plan.step -/
def g_plan_step : Tree × Batch × Unit → Option (Tree × Rekey × Int × Unit)
  | (a, b, _) => bif !decide (chkT a = 0) then some (Tree.mk 0 0 (Vector.replicate 21 (St.zero St.key)) (Vector.replicate 64 (St.zero St.entry)), Rekey.mk 0 [] [] [], chkT a, ()) else bif decide (a.Epoch = 200) then some (Tree.mk 0 0 (Vector.replicate 21 (St.zero St.key)) (Vector.replicate 64 (St.zero St.entry)), Rekey.mk 0 [] [] [], 19, ()) else bif !decide (fits a.Roster b = 0) then some (Tree.mk 0 0 (Vector.replicate 21 (St.zero St.key)) (Vector.replicate 64 (St.zero St.entry)), Rekey.mk 0 [] [] [], fits a.Roster b, ()) else Option.bind (bif decide (List.length b.Leaves ≤ 64) then some (goneOf a.Roster b.Leaves, ()) else none) fun y => bif decide (IntKind.wrap IntKind.i64 (IntKind.wrap IntKind.i64 (32768 - cntTo (replaced y.fst) 32) - (↑(List.length b.Joins) : Int)) < a.Fresh) then some (Tree.mk 0 0 (Vector.replicate 21 (St.zero St.key)) (Vector.replicate 64 (St.zero St.entry)), Rekey.mk 0 [] [] [], 3, ()) else bif !decide ((turn a.Keys (replaced y.fst) a.Fresh).snd.snd = 0) then some (Tree.mk 0 0 (Vector.replicate 21 (St.zero St.key)) (Vector.replicate 64 (St.zero St.entry)), Rekey.mk 0 [] [] [], (turn a.Keys (replaced y.fst) a.Fresh).snd.snd, ()) else bif !decide ((N.move a.Roster b (IntKind.wrap IntKind.i64 (a.Epoch + 1)) (turn a.Keys (replaced y.fst) a.Fresh).snd.fst).e = 0) then some (Tree.mk 0 0 (Vector.replicate 21 (St.zero St.key)) (Vector.replicate 64 (St.zero St.entry)), Rekey.mk 0 [] [] [], (N.move a.Roster b (IntKind.wrap IntKind.i64 (a.Epoch + 1)) (turn a.Keys (replaced y.fst) a.Fresh).snd.fst).e, ()) else some (Tree.mk (IntKind.wrap IntKind.i64 (a.Epoch + 1)) (IntKind.wrap IntKind.i64 ((turn a.Keys (replaced y.fst) a.Fresh).snd.fst + (↑(List.length (N.move a.Roster b (IntKind.wrap IntKind.i64 (a.Epoch + 1)) (turn a.Keys (replaced y.fst) a.Fresh).snd.fst).joined) : Int))) (turn a.Keys (replaced y.fst) a.Fresh).fst (N.move a.Roster b (IntKind.wrap IntKind.i64 (a.Epoch + 1)) (turn a.Keys (replaced y.fst) a.Fresh).snd.fst).r, Rekey.mk (IntKind.wrap IntKind.i64 (a.Epoch + 1)) (N.move a.Roster b (IntKind.wrap IntKind.i64 (a.Epoch + 1)) (turn a.Keys (replaced y.fst) a.Fresh).snd.fst).left (N.move a.Roster b (IntKind.wrap IntKind.i64 (a.Epoch + 1)) (turn a.Keys (replaced y.fst) a.Fresh).snd.fst).joined [], 0, ())
def g_plan_items_r2 : (Unit × Unit × Unit × Int × Int × Int × Int × Unit) × (Tree × Rekey × List Co.Item × Unit) × Unit → Option (((Unit × Unit × Unit × Int × Int × Int × Int × Unit) × (Tree × Rekey × List Co.Item × Unit) × Unit) ⊕ ((Unit × Unit × Unit × Int × Int × Int × Unit) × (Tree × Rekey × List Co.Item × Unit) × Unit))
  | ((_, _, _, a, b, c, d, _), (e, f, g, _), _) => bif decide (bw BinOp.and IntKind.u32 (shrI IntKind.u32 b (IntKind.wrap IntKind.u64 c)) 1 = 1) then bif decide (d < 4) then bif !decide (bw BinOp.and IntKind.u64 (mask (child c d)) a = 0) then Option.bind (bif betw (child c d) 0 84 then some (nodeK e (child c d), ()) else none) fun y => Option.bind (bif betw c 0 84 then some (nodeK e c, ()) else none) fun y_1 => bif decide ((sealK y.fst y_1.fst).snd = 0) then bif decide ((List.length g + 1) * 48 ≤ 140737488355328) then some (Sum.inl (((), (), (), a, b, c, IntKind.wrap IntKind.i64 (d + 1), ()), (e, f, List.append g [Item.mk c (child c d) (sealK y.fst y_1.fst).fst], ()), ())) else none else some (Sum.inl (((), (), (), a, b, c, IntKind.wrap IntKind.i64 (d + 1), ()), (e, f, g, ()), ())) else some (Sum.inl (((), (), (), a, b, c, IntKind.wrap IntKind.i64 (d + 1), ()), (e, f, g, ()), ())) else some (Sum.inr (((), (), (), a, b, c, ()), (e, f, g, ()), ())) else some (Sum.inr (((), (), (), a, b, c, ()), (e, f, g, ()), ()))
def g_plan_items_r1 : (Unit × Unit × Unit × Int × Int × Int × Unit) × (Tree × Rekey × List Co.Item × Unit) × Unit → Option (((Unit × Unit × Unit × Int × Int × Int × Unit) × (Tree × Rekey × List Co.Item × Unit) × Unit) ⊕ ((Unit × Unit × Unit × Int × Unit) × (Tree × Rekey × List Co.Item × Unit) × Unit))
  | ((_, _, _, a, b, c, _), (d, e, f, _), _) => bif decide (0 ≤ c) then Option.bind (lfp g_plan_items_r2 (((), (), (), a, b, c, 0, ()), (d, e, f, ()), ())) fun z => some (Sum.inl (((), (), (), z.fst.snd.snd.snd.fst, z.fst.snd.snd.snd.snd.fst, IntKind.wrap IntKind.i64 (z.fst.snd.snd.snd.snd.snd.fst - 1), ()), (z.snd.fst.fst, z.snd.fst.snd.fst, z.snd.fst.snd.snd.fst, ()), ())) else some (Sum.inr (((), (), (), b, ()), (d, e, f, ()), ()))
def g_plan_items_r4 : (Unit × Unit × Int × Unit × List Seat × Int × Int × Vector Int 3 × Int × Unit) × (Tree × List Co.Item × Seat × Unit) × Unit → Option (((Unit × Unit × Int × Unit × List Seat × Int × Int × Vector Int 3 × Int × Unit) × (Tree × List Co.Item × Seat × Unit) × Unit) ⊕ ((Unit × Unit × Int × List Seat × Int × Int × Unit) × (Tree × List Co.Item × Unit) × Unit))
  | ((_, _, a, _, b, c, d, e, f, _), (g, h, i, _), _) => bif decide (f < 3) then bif decide (0 ≤ f) && decide (f < 3) then bif decide (bw BinOp.and IntKind.u32 (shrI IntKind.u32 a (IntKind.wrap IntKind.u64 (Arr.get e f))) 1 = 0) then Option.bind (bif betw (leaf i.Slot) 0 84 then some (nodeK g (leaf i.Slot), ()) else none) fun y => Option.bind (bif betw (Arr.get e f) 0 84 then some (nodeK g (Arr.get e f), ()) else none) fun y_1 => bif decide ((sealK y.fst y_1.fst).snd = 0) then bif decide ((List.length h + 1) * 48 ≤ 140737488355328) then some (Sum.inl (((), (), a, (), b, c, d, e, IntKind.wrap IntKind.i64 (f + 1), ()), (g, List.append h [Item.mk (Arr.get e f) (leaf i.Slot) (sealK y.fst y_1.fst).fst], i, ()), ())) else none else some (Sum.inl (((), (), a, (), b, c, d, e, IntKind.wrap IntKind.i64 (f + 1), ()), (g, h, i, ()), ())) else some (Sum.inl (((), (), a, (), b, c, d, e, IntKind.wrap IntKind.i64 (f + 1), ()), (g, h, i, ()), ())) else none else some (Sum.inr (((), (), a, b, c, d, ()), (g, h, ()), ()))
def g_plan_items_r3 : (Unit × Unit × Int × List Seat × Int × Int × Unit) × (Tree × List Co.Item × Unit) × Unit → Option (((Unit × Unit × Int × List Seat × Int × Int × Unit) × (Tree × List Co.Item × Unit) × Unit) ⊕ ((Unit × Unit) × (List Co.Item × Unit) × Unit))
  | ((_, _, a, b, c, d, _), (e, f, _), _) => bif decide (d < c) then bif decide (0 ≤ d) && decide (d < (↑(List.length b) : Int)) then Option.bind (lfp g_plan_items_r4 (((), (), a, (), b, c, d, bif decide (0 ≤ leaf (lat b d).Slot) then pathN (lat b d).Slot else zero3, 0, ()), (e, f, lat b d, ()), ())) fun z => some (Sum.inl (((), (), z.fst.snd.snd.fst, z.fst.snd.snd.snd.fst, z.fst.snd.snd.snd.snd.fst, IntKind.wrap IntKind.i64 (z.fst.snd.snd.snd.snd.snd.fst + 1), ()), (z.snd.fst.fst, z.snd.fst.snd.fst, ()), ())) else none else some (Sum.inr (((), ()), (f, ()), ()))
/-- coterie/plan.items -/
def g_plan_items : Tree × Rekey × Unit → Option (List Co.Item × Unit)
  | (a, b, _) => Option.bind (lfp g_plan_items_r1 (((), (), (), N.taken a.Roster, replaced b.Leaves, 20, ()), (a, b, [], ()), ())) fun z => Option.bind (lfp g_plan_items_r3 (((), (), z.fst.snd.snd.snd.fst, z.snd.fst.snd.fst.Joins, (↑(List.length z.snd.fst.snd.fst.Joins) : Int), 0, ()), (z.snd.fst.fst, z.snd.fst.snd.snd.fst, ()), ())) fun z => some (z.snd.fst.fst, ())
/-- coterie/plan.Next -/
def g_plan_Next : Tree × Batch × Unit → Option (Tree × Rekey × Int × Unit)
  | (a, b, _) => bif !decide ((nextT a b).e = 0) then some (Tree.mk 0 0 (Vector.replicate 21 (St.zero St.key)) (Vector.replicate 64 (St.zero St.entry)), Rekey.mk 0 [] [] [], (nextT a b).e, ()) else Option.bind (bif calls (nextT a b).t (Rekey.mk (nextT a b).t.Epoch (nextT a b).left (nextT a b).joined []) then some (items (nextT a b).t (nextT a b).left (nextT a b).joined, ()) else none) fun y => some ((nextT a b).t, Rekey.mk (nextT a b).t.Epoch (nextT a b).left (nextT a b).joined y.fst, 0, ())
/-- coterie/plan.Cost -/
def g_plan_Cost : Tree × Batch × Unit → Option (Int × Int × Unit)
  | (a, b, _) => some ((↑(List.length (nextR a b).snd.fst.Items) : Int), (nextR a b).snd.snd, ())
/-- coterie/coterielaw12.three -/
def g_law12_three : Unit → Option (Tree × Unit)
  | _ => some ((nextR startT (Batch.mk [] [1, 2, 3])).fst, ())
/-- coterie/coterielaw12.lives -/
def g_law12_lives : Unit → Option (Bool × Unit)
  | _ => some (true, ())
/-- coterie/coterielaw12.PlanSteps -/
def g_law12_PlanSteps : Tree × Batch × Unit → Option (Bool × Unit)
  | (a, b, _) => bif !decide ((nextR a b).fst = (nextR a b).fst) then some (false, ()) else bif !decide ((nextR a b).snd.fst = (nextR a b).snd.fst) then some (false, ()) else bif !decide ((nextR a b).snd.snd = (nextR a b).snd.snd) then some (false, ()) else bif decide ((nextR a b).snd.snd = 0) then bif !decide (chkT (nextR a b).fst = 0) then some (false, ()) else bif decide ((↑(List.length (nextR a b).snd.fst.Items) : Int) = (↑(List.length (nextR a b).snd.fst.Items) : Int)) then some (decide ((nextR a b).snd.snd = (nextR a b).snd.snd), ()) else some (false, ()) else bif decide ((↑(List.length (nextR a b).snd.fst.Items) : Int) = (↑(List.length (nextR a b).snd.fst.Items) : Int)) then some (decide ((nextR a b).snd.snd = (nextR a b).snd.snd), ()) else some (false, ())
/-- coterie/coterielaw12.PlanCosts -/
def g_law12_PlanCosts : Tree × Batch × Unit → Option (Bool × Unit)
  | (a, b, _) => bif decide ((↑(List.length (nextR a b).snd.fst.Items) : Int) ≤ IntKind.wrap IntKind.i64 (12 * IntKind.wrap IntKind.i64 ((↑(List.length (nextR a b).snd.fst.Leaves) : Int) + (↑(List.length (nextR a b).snd.fst.Joins) : Int)))) then bif !decide ((nextR a b).snd.snd = 0) then some (true, ()) else bif decide ((↑(List.length (nextR a b).snd.fst.Leaves) : Int) = (↑(List.length b.Leaves) : Int)) then some (decide ((↑(List.length (nextR a b).snd.fst.Joins) : Int) = (↑(List.length b.Joins) : Int)), ()) else some (false, ()) else some (false, ())
def g_law12_PlanFresh_r1 : (Unit × Unit × Unit × Unit × Int × Int × Unit) × (Tree × Tree × Rekey × Unit) × List (Int × Int) × Unit → Option (((Unit × Unit × Unit × Unit × Int × Int × Unit) × (Tree × Tree × Rekey × Unit) × List (Int × Int) × Unit) ⊕ ((Bool × Unit) × Unit × Unit ⊕ (Unit × Unit × Unit × Unit × Int × Unit) × (Tree × Tree × Rekey × Unit) × List (Int × Int) × Unit))
  | ((_, _, _, _, a, b, _), (c, d, e, _), f, _) => bif decide (b < 21) then bif decide (0 ≤ b) && decide (b < 21) then bif inB (replaced e.Leaves) b then some (Sum.inl (((), (), (), (), IntKind.wrap IntKind.i64 (a + 1), IntKind.wrap IntKind.i64 (b + 1), ()), (c, d, e, ()), mput f (Arr.get d.Keys b).Base (IntKind.wrap IntKind.i64 (Option.getD (mget f (Arr.get d.Keys b).Base) 0 + 1)), ())) else bif decide (0 ≤ b) && decide (b < 21) then bif !decide ((Arr.get d.Keys b).Base = (Arr.get c.Keys b).Base) then some (Sum.inr (Sum.inl ((false, ()), (), ()))) else bif decide (0 ≤ b) && decide (b < 21) then bif !decide ((Arr.get d.Keys b).Step = IntKind.wrap IntKind.i64 ((Arr.get c.Keys b).Step + 1)) then some (Sum.inr (Sum.inl ((false, ()), (), ()))) else some (Sum.inl (((), (), (), (), a, IntKind.wrap IntKind.i64 (b + 1), ()), (c, d, e, ()), f, ())) else none else none else none else some (Sum.inr (Sum.inr (((), (), (), (), a, ()), (c, d, e, ()), f, ())))
def g_law12_PlanFresh_r2 : (Unit × Unit × Unit × Int × List Seat × Int × Int × Unit) × (Tree × Tree × Unit) × List (Int × Int) × Unit → Option (((Unit × Unit × Unit × Int × List Seat × Int × Int × Unit) × (Tree × Tree × Unit) × List (Int × Int) × Unit) ⊕ ((Unit × Unit × Unit × Int × Unit) × (Tree × Tree × Unit) × List (Int × Int) × Unit))
  | ((_, _, _, a, b, c, d, _), (e, f, _), g, _) => bif decide (d < c) then bif decide (0 ≤ d) && decide (d < (↑(List.length b) : Int)) then bif decide (0 ≤ (lat b d).Slot) && decide ((lat b d).Slot < 64) then some (Sum.inl (((), (), (), IntKind.wrap IntKind.i64 (a + 1), b, c, IntKind.wrap IntKind.i64 (d + 1), ()), (e, f, ()), mput g (Arr.get f.Roster (lat b d).Slot).Base (IntKind.wrap IntKind.i64 (Option.getD (mget g (Arr.get f.Roster (lat b d).Slot).Base) 0 + 1)), ())) else none else none else some (Sum.inr (((), (), (), a, ()), (e, f, ()), g, ()))
def g_law12_PlanFresh_r3 : (Unit × Unit × Unit × Int × Int × Unit) × (Tree × Tree × Unit) × List (Int × Int) × Unit → Option (((Unit × Unit × Unit × Int × Int × Unit) × (Tree × Tree × Unit) × List (Int × Int) × Unit) ⊕ ((Bool × Unit) × Unit × Unit ⊕ (Unit × Unit × Int × Unit) × (Tree × Tree × Unit) × Unit))
  | ((_, _, _, a, b, _), (c, d, _), e, _) => bif decide (b < a) then bif !decide (Option.getD (mget e (IntKind.wrap IntKind.i64 (c.Fresh + b))) 0 = 1) then some (Sum.inr (Sum.inl ((false, ()), (), ()))) else some (Sum.inl (((), (), (), a, IntKind.wrap IntKind.i64 (b + 1), ()), (c, d, ()), e, ())) else some (Sum.inr (Sum.inr (((), (), a, ()), (c, d, ()), ())))
/-- coterie/coterielaw12.PlanFresh -/
def g_law12_PlanFresh : Tree × Batch × Unit → Option (Bool × Unit)
  | (a, b, _) => bif !decide ((nextR a b).snd.snd = 0) then some (true, ()) else Option.bind (lfp g_law12_PlanFresh_r1 (((), (), (), (), 0, 0, ()), (a, (nextR a b).fst, (nextR a b).snd.fst, ()), [], ())) fun z => Sum.elim (fun x => some (x.fst.fst, ())) (fun z => Option.bind (lfp g_law12_PlanFresh_r2 (((), (), (), z.fst.snd.snd.snd.snd.fst, z.snd.fst.snd.snd.fst.Joins, (↑(List.length z.snd.fst.snd.snd.fst.Joins) : Int), 0, ()), (z.snd.fst.fst, z.snd.fst.snd.fst, ()), z.snd.snd.fst, ())) fun z => Option.bind (lfp g_law12_PlanFresh_r3 (((), (), (), z.fst.snd.snd.snd.fst, 0, ()), (z.snd.fst.fst, z.snd.fst.snd.fst, ()), z.snd.snd.fst, ())) fun z => Sum.elim (fun x => some (x.fst.fst, ())) (fun z => some (decide (z.snd.fst.snd.fst.Fresh = IntKind.wrap IntKind.i64 (z.snd.fst.fst.Fresh + z.fst.snd.snd.fst)), ())) z) z
end Go.Co.N
end
end

section
namespace Go.Co.N
open Go Go.Co

/-- The free slots of a roster, rising. -/
def freeR (r : Roster) : List Nat := (List.range 64).filter fun s => !isOn r s
theorem freeL_taken (r : Roster) : freeL (taken r) = freeR r := by
  unfold freeL freeR taken
  refine List.filter_congr fun i hi => ?_
  have hi : i < 64 := by simpa using hi
  rw [bitI_word]; simp [hi]
theorem freeR_len (r : Roster) : (freeR r).length = freeN r := by
  unfold freeR freeN
  rw [filter_cnt]
theorem range_split {n s : Nat} {l1 l2 : List Nat} (h : List.range n = l1 ++ s :: l2) : (∀ k, k < s → k ∈ l1) ∧ s < n ∧ (∀ x ∈ l2, x ≠ s) ∧ s ∉ l1 := by
  have hp : (l1 ++ s :: l2).Pairwise (· < ·) := h ▸ List.pairwise_lt_range
  obtain ⟨_, h2, h3⟩ := List.pairwise_append.1 hp
  have h2 := List.pairwise_cons.1 h2
  have hs : s < n := by
    have : s ∈ List.range n := by rw [h]; simp
    simpa using this
  refine ⟨fun k hk => ?_, hs, fun x hx => Nat.ne_of_gt (h2.1 x hx), fun hm => absurd (h3 s hm s (List.mem_cons_self ..)) (Nat.lt_irrefl _)⟩
  have : k ∈ List.range n := by simp; omega
  rw [h] at this
  rcases List.mem_append.1 this with hm | hm
  · exact hm
  · rcases List.mem_cons.1 hm with rfl | hm
    · omega
    · have := h2.1 k hm; omega
theorem freeR_cons {r : Roster} {s : Nat} {F : List Nat} (h : freeR r = s :: F) : s < 64 ∧ lowFree r = s ∧ ∀ e : Entry, e.Base ≠ 0 → freeR (Arr.put r (s : Int) e) = F := by
  obtain ⟨l1, l2, h1, h2, h3, h4⟩ := List.filter_eq_cons_iff.1 h
  obtain ⟨k1, k2, k3, k4⟩ := range_split h1
  have hf : isOn r s = false := by simpa using h3
  refine ⟨k2, ?_, fun e he => ?_⟩
  · have hpos : 0 < freeN r := by rw [← freeR_len, h]; simp
    obtain ⟨t, ht, e1, e2, e3⟩ := lowFree_ok hpos
    rw [e1]
    have h5 : ¬ t < s := fun hlt => by
      have := h2 t (k1 t hlt)
      rw [e2] at this; simp at this
    have h6 : ¬ s < t := fun hlt => by rw [e3 s hlt] at hf; cases hf
    omega
  · have hon : ∀ x, isOn (Arr.put r (s : Int) e) x = if s = x then true else isOn r x := fun x => by
      rw [isOn_put r k2]
      simp [he]
    unfold freeR
    rw [h1, List.filter_append, List.filter_cons]
    have e1 : l1.filter (fun x => !isOn (Arr.put r (s : Int) e) x) = [] := List.filter_eq_nil_iff.2 fun x hx => by
      rw [hon]
      split
      · simp
      · exact h2 x hx
    have e2 : l2.filter (fun x => !isOn (Arr.put r (s : Int) e) x) = F := by
      rw [← h4]
      refine List.filter_congr fun x hx => ?_
      rw [hon, if_neg (fun e => k3 x hx e.symm)]
    rw [e1, e2, hon]
    simp
/-- Joiners on these slots. -/
def joinS (since : Int) : List Int → List Nat → Int → Roster → Roster × List Seat
  | w :: ws, s :: ss, b, r => ((joinS since ws ss (b + 1) (Arr.put r (s : Int) ⟨w, b, since⟩)).1, ⟨w, (s : Int)⟩ :: (joinS since ws ss (b + 1) (Arr.put r (s : Int) ⟨w, b, since⟩)).2)
  | _, _, _, r => (r, [])
theorem joinS_eq (since : Int) : ∀ (ws : List Int) (b : Int) (r : Roster), ws.length ≤ (freeR r).length → 1 ≤ b → joinS since ws ((freeR r).take ws.length) b r = joinGo since ws b r
  | [], _, _, _, _ => by simp [joinS, joinGo]
  | w :: ws, b, r, hl, hb => by
    cases hF : freeR r with
    | nil => rw [hF] at hl; simp at hl
    | cons s F =>
      obtain ⟨h1, h2, h3⟩ := freeR_cons hF
      have h3 := h3 ⟨w, b, since⟩ (by show b ≠ 0; omega)
      rw [hF] at hl
      simp only [List.length_cons] at hl
      simp only [List.length_cons, List.take_succ_cons, joinS, joinGo, h2]
      have ih := joinS_eq since ws (b + 1) (Arr.put r (s : Int) ⟨w, b, since⟩) (by rw [h3]; omega) (by omega)
      rw [h3] at ih
      rw [ih]
abbrev JA := Roster × List Seat × List Int
def joinStep {Z : Type} (since base : Int) (a : JA) (x : Int) : JA ⊕ Z :=
  .inl (Arr.put a.1 x ⟨a.2.2.headD 0, base + (a.2.1.length : Int), since⟩, a.2.1 ++ [⟨a.2.2.headD 0, x⟩], a.2.2.tail)
theorem joinS_fold {Z : Type} (since base : Int) (fin : JA → Z) : ∀ (ws : List Int) (ss : List Nat) (acc : List Seat) (r : Roster), ws.length = ss.length →
    foldE (joinStep since base) fin (ss.map fun (i : Nat) => (i : Int)) (r, acc, ws) = fin ((joinS since ws ss (base + acc.length) r).1, acc ++ (joinS since ws ss (base + acc.length) r).2, [])
  | [], [], acc, r, _ => by simp [foldE, joinS]
  | [], _ :: _, _, _, h => by simp at h
  | _ :: _, [], _, _, h => by simp at h
  | w :: ws, s :: ss, acc, r, h => by
    simp only [List.map_cons, foldE, joinStep, joinS, List.headD_cons, List.tail_cons]
    have := joinS_fold since base fin ws ss (acc ++ [⟨w, (s : Int)⟩]) (Arr.put r (s : Int) ⟨w, base + acc.length, since⟩) (by simpa using h)
    rw [show foldE (joinStep since base) fin (ss.map fun (i : Nat) => (i : Int)) (Arr.put r (s : Int) ⟨w, base + acc.length, since⟩, acc ++ [⟨w, (s : Int)⟩], ws) = _ from this]
    simp [Int.add_assoc]
section
variable {r : Roster} {b : Batch} {since base : Int}
theorem rmove_loop1 (hc : canLeave r b.Leaves) (hl : b.Leaves.length ≤ 256) :
    lfp g_roster_Move_r1 ((since, base, (), (), (), [], (), b.Leaves, (b.Leaves.length : Int), 0, ()), (r, b, zeroR, ()), ()) = some ((since, base, (), (), (), (leaveGo b.Leaves r).2, (), ()), ((leaveGo b.Leaves r).1, b, zeroR, ()), ()) := by
  have h := lfp_list (f := g_roster_Move_r1) b.Leaves (fun i (a : List Co.Seat × Roster) => ((since, base, (), (), (), a.1, (), b.Leaves, (b.Leaves.length : Int), (i : Int), ()), (a.2, b, zeroR, ()), ()))
    (fun a w => Sum.inl (a.1 ++ [⟨w, findR a.2 w⟩], Arr.put a.2 (findR a.2 w) zeroE)) (fun i todo a => canLeave a.2 todo ∧ a.1.length = i) (fun a => ((since, base, (), (), (), a.1, (), ()), (a.2, b, zeroR, ()), ()))
    (fun i x rest a _ hi hx ⟨ha, hal⟩ => by
      obtain ⟨s, hs, he, hon, hw, hn⟩ := canLeave_next ha
      refine ⟨fun a' ha' => ?_, ?_⟩
      · simp only [Sum.inl.injEq] at ha'
        subst ha'
        simp only [he]
        exact ⟨hn, by simp [hal]⟩
      · have h1 : (i : Int) < (b.Leaves.length : Int) := by omega
        have h2 : (a.1.length + 1) * 16 ≤ 140737488355328 := by omega
        have h3 : (s : Int) < 64 := by omega
        simp only [g_roster_Move_r1, h1, hx, he, h2, h3, decide_true, cond_true, Int.natCast_nonneg, Bool.and_self, wrap1' hi (by omega)]
        rfl)
    (fun a _ => by simp [g_roster_Move_r1]) b.Leaves 0 ([], r) rfl (by omega) ⟨hc, rfl⟩
  rw [leave_fold] at h
  simpa using h
theorem rmove_loop2 {left : List Co.Seat} {z : Roster} (hr : b.Joins.length ≤ freeN r) (hb : b.Joins ≠ [] → 1 ≤ base ∧ base ≤ 32768 - b.Joins.length) :
    lfp g_roster_Move_r2 ((since, base, (), (), (), left, [], (takeW (taken r) (b.Joins.length : Int)).1, ((takeW (taken r) (b.Joins.length : Int)).1.length : Int), 0, ()), (r, b, z, ()), ()) = some (((), (), left, (joinGo since b.Joins base r).2, ()), ((joinGo since b.Joins base r).1, z, ()), ()) := by
  have hlen : b.Joins.length ≤ 64 := Nat.le_trans hr (freeN_le r)
  have hcw := cntW_taken r
  have ht : (takeW (taken r) (b.Joins.length : Int)).1 = ((freeR r).take b.Joins.length).map fun (i : Nat) => (i : Int) := by
    unfold takeW
    have h1 : ¬ (b.Joins.length : Int) < 0 := by omega
    have h2 : ¬ 64 - cntW (taken r) < (b.Joins.length : Int) := by omega
    rw [if_neg h1, if_neg h2, freeL_taken, Int.toNat_natCast]
  have hfl : ((freeR r).take b.Joins.length).length = b.Joins.length := by rw [List.length_take, freeR_len]; omega
  rw [ht]
  have hsl : (((freeR r).take b.Joins.length).map fun (i : Nat) => (i : Int)).length = b.Joins.length := by rw [List.length_map, hfl]
  have hmem : ∀ x ∈ ((freeR r).take b.Joins.length).map (fun (i : Nat) => (i : Int)), 0 ≤ x ∧ x < 64 := fun x hx => by
    obtain ⟨i, hi, rfl⟩ := List.mem_map.1 hx
    have := List.mem_of_mem_take hi
    unfold freeR at this
    simp only [List.mem_filter, List.mem_range] at this
    omega
  have h := lfp_list (f := g_roster_Move_r2) (((freeR r).take b.Joins.length).map fun (i : Nat) => (i : Int)) (fun i (a : JA) => ((since, base, (), (), (), left, a.2.1, ((freeR r).take b.Joins.length).map (fun (i : Nat) => (i : Int)), ((((freeR r).take b.Joins.length).map (fun (i : Nat) => (i : Int))).length : Int), (i : Int), ()), (a.1, b, z, ()), ()))
    (joinStep since base) (fun i todo a => a.2.1.length = i ∧ a.2.2 = b.Joins.drop i ∧ ∀ x ∈ todo, 0 ≤ x ∧ x < 64) (fun a => (((), (), left, a.2.1, ()), (a.1, z, ()), ()))
    (fun i x rest a hd hi hx ⟨ha, hal, hm⟩ => by
      have hij : i < b.Joins.length := by rw [hsl] at hi; exact hi
      obtain ⟨x0, x1⟩ := hm x (List.mem_cons_self ..)
      have hdr := List.drop_eq_getElem_cons hij
      have hh : a.2.2.headD 0 = lat b.Joins (i : Int) := by rw [hal, hdr, lat_nat _ _ hij]; rfl
      refine ⟨fun a' ha' => ?_, ?_⟩
      · simp only [joinStep, Sum.inl.injEq] at ha'
        subst ha'
        refine ⟨by simp [ha], ?_, fun y hy => hm y (List.mem_cons_of_mem _ hy)⟩
        show a.2.2.tail = _
        rw [hal, List.tail_drop]
      · have h1 : (i : Int) < (b.Joins.length : Int) := by omega
        have h2i : (i + 1) * 16 ≤ 140737488355328 := by omega
        have hb' := hb (fun e => by rw [e] at hij; simp at hij)
        have hw : IntKind.i64.wrap (base + (i : Int)) = base + (i : Int) := i64_in _ (by omega)
        simp only [g_roster_Move_r2, hsl, h1, hx, x0, x1, decide_true, cond_true, Int.natCast_nonneg, Bool.and_self, h2i, hw, ha, joinStep, hh, wrap1' hij (by omega)]
        rfl)
    (fun a _ => by simp [g_roster_Move_r2]) (((freeR r).take b.Joins.length).map fun (i : Nat) => (i : Int)) 0 (r, [], b.Joins) rfl (by omega) ⟨rfl, rfl, hmem⟩
  rw [joinS_fold since base _ b.Joins _ [] r hfl.symm] at h
  by_cases hne : b.Joins = []
  · rw [hne] at h ⊢
    simpa [joinS, joinGo] using h
  · have hb' := hb hne
    have hq := joinS_eq since b.Joins base r (by rw [freeR_len]; exact hr) hb'.1
    simp only [List.length_nil, Int.natCast_zero, Int.add_zero, List.nil_append] at h
    rw [hq] at h
    exact h
end
theorem eq_roster_Move : Eqs c_roster_Move g_roster_Move := Eqs.tot fun (r, b, since, base, _) hf => by
  change Int at since base
  change Batch at b
  have zr : (Vector.replicate 64 (St.zero St.entry) : Roster) = zeroR := rfl
  show g_roster_Move (r, b, since, base, ()) = some ((move r b since base).r, (move r b since base).left, (move r b since base).joined, (move r b since base).e, ())
  simp only [g_roster_Move, zr]
  by_cases h0 : fits r b = 0
  case neg =>
    have : move r b since base = ⟨zeroR, [], [], fits r b⟩ := by simp [move, h0]
    simp only [h0, this, decide_false, Bool.not_false, cond_true]
  obtain ⟨hroom, hJ, hL⟩ := move_room h0
  have hcl := canLeave_of (fits_ok h0).2.1
  by_cases h1 : since < 1
  · have g : ¬ 1 ≤ since := by omega
    have : move r b since base = ⟨zeroR, [], [], 19⟩ := by simp [move, h0, g]
    simp only [h0, h1, this, decide_true, Bool.not_true, cond_true, cond_false]
  by_cases h2 : 200 < since
  · have g : ¬ since ≤ 200 := by omega
    have : move r b since base = ⟨zeroR, [], [], 19⟩ := by simp [move, h0, g]
    simp only [h0, h1, h2, this, decide_true, decide_false, Bool.not_true, cond_true, cond_false]
  have g1 : 1 ≤ since := by omega
  have g2 : since ≤ 200 := by omega
  have g3 : (b.Joins.length : Int) ≤ 64 := by omega
  simp only [h0, h1, h2, g3, Int.natCast_nonneg, Bool.and_self, decide_true, decide_false, Bool.not_true, cond_true, cond_false, Option.bind_some]
  have hm : move r b since base = bif namesFree r base (b.Joins.length : Int) then moveGo r b since base else ⟨zeroR, [], [], 3⟩ := by
    unfold move
    simp only [h0, g1, g2, decide_true, cond_true, Bool.and_self]
  rw [hm]
  cases hn : namesFree r base (b.Joins.length : Int) with
  | false => rfl
  | true =>
    simp only [Bool.not_true, cond_true, cond_false]
    rw [rmove_loop1 hcl (by omega)]
    simp only [Option.bind_some]
    rw [rmove_loop2 hroom fun hne => by
      unfold namesFree at hn
      have hl : ¬ (b.Joins.length : Int) = 0 := fun e => hne (List.length_eq_zero_iff.1 (by omega))
      simp only [hl, decide_false, Bool.false_or, Bool.and_eq_true, decide_eq_true_eq] at hn
      exact hn.1]
    rfl
end Go.Co.N
end

section
namespace Go.Co.N
open Go Go.Co

theorem replaced_small (l : List Co.Seat) : 0 ≤ replaced l ∧ replaced l < 2097152 := by
  unfold replaced
  have := word_lt (fun v => l.any fun s => below v (leaf s.Slot)) 21
  have h2 : (2 : Nat) ^ 21 = 2097152 := by decide
  omega
theorem nextT_full {t : Tree} {b : Batch} (hg : goodTree t = true) (he : t.Epoch ≠ 200) (hfi : fits t.Roster b = 0)
    (hf : 32768 - cntTo (replaced (goneOf t.Roster b.Leaves)) 21 - (b.Joins.length : Int) < t.Fresh) : nextT t b = ⟨zeroT, [], [], 3⟩ := by
  obtain ⟨e0, e1, f0, f1, hk, _, hks, _⟩ := goodTree_iff.1 hg
  have hm := (replaced_small (goneOf t.Roster b.Leaves)).2
  have hc := cntTo_le (replaced (goneOf t.Roster b.Leaves)) 21
  by_cases ht : (stepTurn t b).2.2 = 0
  · have hfr := turn_fresh ht
    obtain ⟨_, _, hfree, _, _⟩ := turn_ok ht
    have hb : (stepTurn t b).2.1 = t.Fresh + cntTo (replaced (goneOf t.Roster b.Leaves)) 21 := hfr
    have hle : t.Fresh + cntTo (replaced (goneOf t.Roster b.Leaves)) 21 ≤ 32768 := by
      rcases free_cnt hfree with h0 | ⟨_, h0, _⟩ <;> omega
    have hj : ¬ (b.Joins.length : Int) = 0 := by omega
    have hlt : ¬ (t.Fresh + cntTo (replaced (goneOf t.Roster b.Leaves)) 21) ≤ 32768 - (b.Joins.length : Int) := by omega
    have hn : namesFree t.Roster (stepTurn t b).2.1 (b.Joins.length : Int) = false := by
      rw [hb]
      unfold namesFree
      rw [decide_eq_false hj, decide_eq_false hlt]
      simp
    have s1 : 1 ≤ t.Epoch + 1 := by omega
    have s2 : t.Epoch + 1 ≤ 200 := by omega
    have hmv : stepMove t b = ⟨zeroR, [], [], 3⟩ := by
      unfold stepMove move
      rw [hn]
      simp [hfi, s1, s2]
    simp [nextT, hg, he, hfi, ht, hmv]
  · have he3 : (stepTurn t b).2.2 = 3 := by
      unfold stepTurn turn at ht ⊢
      have hstp : allN 21 (fun v => inB (replaced (goneOf t.Roster b.Leaves)) v || decide (stp t.Keys v < 255)) = true := allN_iff.2 fun v hv => by
        have := (hks v hv).2
        have : stp t.Keys v < 255 := by omega
        simp [this]
      rw [hstp] at ht ⊢
      simp only [hk, hm, decide_true, cond_true] at ht ⊢
      cases hfr : free t.Keys t.Fresh (cntTo (replaced (goneOf t.Roster b.Leaves)) 21) with
      | true => rw [hfr] at ht; exact absurd rfl ht
      | false => rfl
    simp [nextT, hg, he, hfi, he3]
theorem eq_plan_step : Eqs c_plan_step g_plan_step := Eqs.tot fun (t, b, _) _ => by
  change Tree at t
  change Batch at b
  have zt : (Tree.mk 0 0 (Vector.replicate 21 (St.zero St.key)) (Vector.replicate 64 (St.zero St.entry))) = zeroT := rfl
  show g_plan_step (t, b, ()) = some ((nextT t b).t, ⟨(nextT t b).t.Epoch, (nextT t b).left, (nextT t b).joined, []⟩, (nextT t b).e, ())
  simp only [g_plan_step, zt]
  by_cases hg : goodTree t = true
  case neg =>
    have hc : ¬ chkT t = 0 := fun e => hg (chkT_0.1 e)
    have h31 : chkT t = 31 := by simp [chkT, hg]
    have : nextT t b = ⟨zeroT, [], [], 31⟩ := by simp [nextT, hg]
    simp only [this, h31]; rfl
  have hc : chkT t = 0 := chkT_0.2 hg
  by_cases he : t.Epoch = 200
  · have : nextT t b = ⟨zeroT, [], [], 19⟩ := by simp [nextT, hg, he]
    simp only [hc, he, this, decide_true, Bool.not_true, cond_true, cond_false]; rfl
  by_cases hfi : fits t.Roster b = 0
  case neg =>
    have : nextT t b = ⟨zeroT, [], [], fits t.Roster b⟩ := by simp [nextT, hg, he, hfi]
    simp only [hc, he, hfi, this, decide_true, decide_false, Bool.not_true, Bool.not_false, cond_true, cond_false]; rfl
  obtain ⟨hroom, hJ, hL⟩ := move_room hfi
  obtain ⟨e0, e1, f0, f1, hk, _, hks, _⟩ := goodTree_iff.1 hg
  have hm := replaced_small (goneOf t.Roster b.Leaves)
  have hcn := cntTo_le (replaced (goneOf t.Roster b.Leaves)) 21
  have h32 : cntTo (replaced (goneOf t.Roster b.Leaves)) 32 = cntTo (replaced (goneOf t.Roster b.Leaves)) 21 := cntTo_small hm.1 (k := 21) (by omega) 11
  simp only [hc, he, hfi, hL, decide_true, decide_false, Bool.not_true, cond_true, cond_false, Option.bind_some, h32]
  rw [i64_in (32768 - cntTo (replaced (goneOf t.Roster b.Leaves)) 21) (by omega), i64_in (32768 - cntTo (replaced (goneOf t.Roster b.Leaves)) 21 - (b.Joins.length : Int)) (by omega), i64_in (t.Epoch + 1) (by omega)]
  by_cases hfull : 32768 - cntTo (replaced (goneOf t.Roster b.Leaves)) 21 - (b.Joins.length : Int) < t.Fresh
  · rw [nextT_full hg he hfi hfull]
    simp only [hfull, decide_true, cond_true]; rfl
  simp only [hfull, decide_false, cond_false]
  have hst : turn t.Keys (replaced (goneOf t.Roster b.Leaves)) t.Fresh = stepTurn t b := rfl
  simp only [hst]
  by_cases ht : (stepTurn t b).2.2 = 0
  case neg =>
    have : nextT t b = ⟨zeroT, [], [], (stepTurn t b).2.2⟩ := by simp [nextT, hg, he, hfi, ht]
    simp only [ht, this, decide_false, Bool.not_false, cond_true]; rfl
  have hmv : move t.Roster b (t.Epoch + 1) (stepTurn t b).2.1 = stepMove t b := rfl
  simp only [ht, hmv, decide_true, Bool.not_true, cond_false]
  by_cases hme : (stepMove t b).e = 0
  case neg =>
    have : nextT t b = ⟨zeroT, [], [], (stepMove t b).e⟩ := by simp [nextT, hg, he, hfi, ht, hme]
    simp only [hme, this, decide_false, Bool.not_false, cond_true]; rfl
  have hfr : (stepTurn t b).2.1 = t.Fresh + cntTo (replaced (goneOf t.Roster b.Leaves)) 21 := turn_fresh ht
  have hjl : (stepMove t b).joined.length = b.Joins.length := by
    unfold stepMove
    rw [(move_joined hme).1, moveGo]
    exact joinGo_len _ _ _ _
  have : nextT t b = ⟨⟨t.Epoch + 1, (stepTurn t b).2.1 + (stepMove t b).joined.length, (stepTurn t b).1, (stepMove t b).r⟩, (stepMove t b).left, (stepMove t b).joined, 0⟩ := by simp [nextT, hg, he, hfi, ht, hme]
  rw [this]
  simp only [hme, decide_true, Bool.not_true, cond_false]
  rw [i64_in _ (by rw [hfr, hjl]; omega)]
theorem eq_plan_Cost : Eqs c_plan_Cost g_plan_Cost := Eqs.tot fun _ _ => rfl
theorem eq_law12_three : Eqs c_law12_three g_law12_three := Eqs.tot fun _ _ => rfl
theorem eq_law12_lives : Eqs c_law12_lives g_law12_lives := Eqs.tot fun _ _ => rfl
theorem eq_law12_PlanSteps : Eqs c_law12_PlanSteps g_law12_PlanSteps := Eqs.tot fun (t, b, _) _ => by
  change Tree at t
  change Batch at b
  show g_law12_PlanSteps (t, b, ()) = some (true, ())
  simp only [g_law12_PlanSteps, decide_true, Bool.not_true, cond_true, cond_false]
  by_cases h : (nextR t b).2.2 = 0
  · have h0 : (nextT t b).e = 0 := by rw [← nextR_e]; exact h
    have hg : chkT (nextR t b).1 = 0 := by rw [nextR_is h0]; exact chkT_0.2 (nx_good h0)
    simp [h, hg]
  · simp [h]
end Go.Co.N
end

section
namespace Go.Co.N
open Go Go.Co

theorem belowR_leaf {r : Roster} {v : Int} (hb : belowR r v = true) (hv : 21 ≤ v) (hv2 : v < 85) : ∃ s : Nat, s < 64 ∧ v = leaf s ∧ isOn r s = true := by
  obtain ⟨s, hs, hb⟩ := anyN_iff.1 hb
  simp only [Bool.and_eq_true] at hb
  obtain ⟨k, hk⟩ := Int.eq_ofNat_of_zero_le (show 0 ≤ v - 21 by omega)
  have hvk : v = ((21 + k : Nat) : Int) := by omega
  have := allN_iff.1 (allN_iff.1 below_leaf k (by omega)) s hs
  simp only [decide_eq_true_eq] at this
  rw [hvk, this] at hb
  simp only [decide_eq_true_eq] at hb
  obtain ⟨h1, rfl⟩ := hb
  exact ⟨k, hs, by rw [leaf_in hs]; omega, h1⟩
theorem child_nat {v i : Nat} (hv : v < 21) (hi : i < 4) : child v i = ((4 * v + 1 + i : Nat) : Int) := by unfold child; rw [if_pos ⟨by omega, by omega, by omega, by omega⟩]; omega
theorem good_childT {t : Tree} (hg : goodTree t = true) {v : Nat} {i : Nat} (hv : v < 21) (hi : i < 4) (hb : belowR t.Roster (child v i) = true) : good (keyN t (child v i)) = true := by
  have hc := child_nat hv hi
  by_cases hlt : 4 * v + 1 + i < 21
  · rw [hc]; exact good_inner hg hlt
  · obtain ⟨s, hs, he, hon⟩ := belowR_leaf hb (by omega) (by omega)
    rw [he]; exact good_leafK hg hs hon
theorem nodeK_eq (t : Tree) {v : Int} (h0 : 0 ≤ v) (h1 : v ≤ 84) : nodeK t v = keyN t v := by
  obtain ⟨n, rfl⟩ := Int.eq_ofNat_of_zero_le h0
  unfold nodeK slot
  by_cases h : n < 21
  · have : ¬ (21 ≤ (n : Int) ∧ (n : Int) < 85) := by omega
    rw [if_neg this, keyN_inner t h]; rfl
  · have : 21 ≤ (n : Int) ∧ (n : Int) < 85 := by omega
    have h2 : 0 ≤ (n : Int) - 21 := by omega
    rw [if_pos this, decide_eq_true h2]
    have he : (n : Int) = leaf ((n - 21 : Nat) : Int) := by rw [leaf_in (by omega)]; omega
    have hs : (n : Int) - 21 = ((n - 21 : Nat) : Int) := by omega
    rw [hs, cond_true, he, keyN_leaf t (by omega)]
theorem maskR_below (r : Roster) (v : Int) : (!decide (bw .and .u64 (mask v) (taken r) = 0)) = belowR r v := by
  unfold taken mask belowR
  rw [word_and]
  refine bool_eq ?_
  simp only [Bool.not_eq_true', decide_eq_false_iff_not, anyN_iff]
  constructor
  · intro h
    refine Classical.byContradiction fun hn => h ?_
    have : word (fun i => below v (leaf i) && isOn r i) 64 = 0 := by
      have : word (fun i => below v (leaf i) && isOn r i) 64 = word (fun _ => false) 64 := word_congr 64 fun i hi => by
        cases hq : (below v (leaf i) && isOn r i) with
        | false => rfl
        | true => exact absurd ⟨i, hi, by rw [Bool.and_comm]; exact hq⟩ hn
      rw [this]; exact (by decide : word (fun _ => false) 64 = 0)
    rw [this]; rfl
  · rintro ⟨i, hi, hb⟩ h
    have hz : word (fun i => below v (leaf i) && isOn r i) 64 = 0 := by omega
    have := word_bit (fun i => below v (leaf i) && isOn r i) 64 i
    rw [hz] at this
    rw [Bool.and_comm] at hb
    simp [hi, hb] at this
theorem seal_item {t : Tree} {v fr : Int} (h1 : good (keyN t fr) = true) (h2 : good (keyN t v) = true) : sealK (keyN t fr) (keyN t v) = ((itemOf t v fr).Box, 0) := by
  unfold sealK itemOf
  rw [h1, h2]; rfl
section
variable {t : Tree} {m : Rekey} (hg : goodTree t = true)
include hg
theorem pitems_loop2 {M : Int} (h0 : 0 ≤ M) (h1 : M ≤ 4294967295) {acc : List Co.Item} {v : Nat} (hv : v < 21) (h : acc.length ≤ 1000) :
    lfp g_plan_items_r2 (((), (), (), taken t.Roster, M, (v : Int), 0, ()), (t, m, acc, ()), ()) = some (((), (), (), taken t.Roster, M, (v : Int), ()), (t, m, acc ++ nodeItems t M v, ()), ()) := by
  have hb : decide (bw .and .u32 (shrI .u32 M (IntKind.u64.wrap (v : Int))) 1 = 1) = inB M v := by
    rw [Go.IntWalk.u64_in _ (by omega)]; exact bit_in M v h0 h1 (by omega) (by omega)
  unfold nodeItems
  cases hin : inB M v with
  | false => rw [hin] at hb; exact lfp_inr (by simp only [g_plan_items_r2, hb, cond_false, List.append_nil])
  | true =>
    rw [hin] at hb
    rw [lfp_run' (fun i => (((), (), (), taken t.Roster, M, (v : Int), (i : Int), ()), (t, m, acc ++ kidItems t v i, ()), ())) 4 (by simp [kidItems]) fun i hi => by
      have h1 : (i : Int) < 4 := by omega
      have hl := kidItems_len t v i
      have h2 : ((acc ++ kidItems t v i).length + 1) * 48 ≤ 140737488355328 := by rw [List.length_append]; omega
      have hc := child_nat hv hi
      have b1 : betw (child v i) 0 84 = true := betw_iff.2 (by omega)
      have b2 : betw (v : Int) 0 84 = true := betw_iff.2 (by omega)
      simp only [g_plan_items_r2, hb, h1, decide_true, cond_true, wrap1 i (by omega), kidItems_succ, maskR_below]
      cases hbr : belowR t.Roster (child v i) with
      | false => simp
      | true =>
        have hs := seal_item (good_childT hg hv hi hbr) (good_inner hg hv)
        simp only [cond_true, b1, b2, Option.bind_some, nodeK_eq t (show 0 ≤ child v i by omega) (show child v i ≤ 84 by omega), nodeK_eq t (show 0 ≤ (v : Int) by omega) (show (v : Int) ≤ 84 by omega), hs, decide_true, h2]
        rw [← List.append_assoc]
        rfl]
    exact lfp_inr (by simp [g_plan_items_r2, hb, kidItems])
theorem pitems_loop1 {M : Int} (h0 : 0 ≤ M) (h1 : M ≤ 4294967295) : ∀ (n : Nat) (acc : List Co.Item), n ≤ 21 → acc.length ≤ 4 * (21 - n) →
    lfp g_plan_items_r1 (((), (), (), taken t.Roster, M, (n : Int) - 1, ()), (t, m, acc, ()), ()) = some (((), (), (), M, ()), (t, m, acc ++ itemsUp t M n, ()), ())
  | 0, acc, _, _ => by
    simp only [itemsUp, List.append_nil]
    exact lfp_inr (by simp [g_plan_items_r1])
  | n + 1, acc, hn, ha => by
    have hl := nodeItems_len t M n
    have e1 : ((n + 1 : Nat) : Int) - 1 = (n : Int) := by omega
    rw [e1, lfp_inl (x' := (((), (), (), taken t.Roster, M, (n : Int) - 1, ()), (t, m, acc ++ nodeItems t M n, ()), ())) (by
      have hw : IntKind.i64.wrap ((n : Int) - 1) = (n : Int) - 1 := i64_in _ (by omega)
      simp only [g_plan_items_r1, Int.natCast_nonneg, decide_true, cond_true, pitems_loop2 hg h0 h1 (m := m) (acc := acc) (v := n) (by omega) (by omega), Option.bind_some, hw])]
    rw [pitems_loop1 h0 h1 n (acc ++ nodeItems t M n) (by omega) (by rw [List.length_append]; omega)]
    simp [itemsUp]
theorem pitems_loop4 {M : Int} (h0 : 0 ≤ M) (h1 : M ≤ 4294967295) {acc : List Co.Item} {s : Co.Seat} {k : Nat} (hk : k < 64) (hs : s.Slot = k) (hon : isOn t.Roster k = true) {j : List Co.Seat} {d e : Int} (h : acc.length ≤ 1000) :
    lfp g_plan_items_r4 (((), (), M, (), j, d, e, pathG s.Slot, 0, ()), (t, acc, s, ()), ()) = some (((), (), M, j, d, e, ()), (t, acc ++ joinItems t M s.Slot, ()), ()) := by
  have hlf := good_leafK hg hk hon
  have b1 : betw (leaf s.Slot) 0 84 = true := betw_iff.2 (by rw [hs, leaf_in hk]; omega)
  have hl0 : 0 ≤ leaf s.Slot ∧ leaf s.Slot ≤ 84 := by rw [hs, leaf_in hk]; omega
  rw [lfp_run' (fun i => (((), (), M, (), j, d, e, pathG s.Slot, (i : Int), ()), (t, acc ++ legItems t M s.Slot i, s, ()), ())) 3 (by simp [legItems]) fun i hi => by
    have g1 : (i : Int) < 3 := by omega
    have hl := legItems_len t M s.Slot i
    have h2 : ((acc ++ legItems t M s.Slot i).length + 1) * 48 ≤ 140737488355328 := by rw [List.length_append]; omega
    obtain ⟨v, hv, hv2, _⟩ := path_at hk i hi
    have hp : Arr.get (pathG s.Slot) (i : Int) = (v : Int) := by rw [hs, pathG_at hk i hi, hv]
    have b2 : betw (v : Int) 0 84 = true := betw_iff.2 (by omega)
    have hb : decide (bw .and .u32 (shrI .u32 M (IntKind.u64.wrap (v : Int))) 1 = 0) = !inB M v := by
      rw [Go.IntWalk.u64_in _ (by omega)]
      have hq := bit_in M v h0 h1 (by omega) (by omega)
      rw [← hq]
      rw [shr_u32 M v (by omega) (by omega)]
      have hle : 0 ≤ M / 2 ^ (v : Int).toNat ∧ M / 2 ^ (v : Int).toNat ≤ 4294967295 := ⟨Int.ediv_nonneg h0 (Int.pow_nonneg (by omega)), Int.le_trans (Int.ediv_le_self _ h0) h1⟩
      rw [bw_and_one _ hle.1 hle.2]
      refine bool_eq ?_
      simp only [decide_eq_true_eq, Bool.not_eq_true', decide_eq_false_iff_not]
      omega
    simp only [g_plan_items_r4, g1, decide_true, cond_true, Int.natCast_nonneg, Bool.and_self, hp, hb, wrap1 i (by omega), legItems_succ]
    cases hin : inB M (v : Int) with
    | true => simp
    | false =>
      have hse := seal_item (t := t) (v := (v : Int)) (fr := leaf s.Slot) (by rw [hs]; exact hlf) (good_inner hg hv2)
      simp only [Bool.not_false, cond_true, b1, b2, Option.bind_some, nodeK_eq t hl0.1 hl0.2, nodeK_eq t (show 0 ≤ (v : Int) by omega) (show (v : Int) ≤ 84 by omega), hse, decide_true, h2]
      rw [← List.append_assoc]
      rfl]
  exact lfp_inr (by simp [g_plan_items_r4, legItems, joinItems])
end
theorem eq_plan_items : Eqs c_plan_items g_plan_items := fun (t, m, _) y hf h => by
  change Tree at t
  change Rekey at m
  obtain ⟨hc, h⟩ := guardK_some h
  rw [← h]
  show g_plan_items (t, m, ()) = some (items t m.Leaves m.Joins, ())
  have hc : calls t m = true := hc
  unfold calls at hc
  simp only [Bool.and_eq_true, decide_eq_true_eq, List.all_eq_true] at hc
  obtain ⟨⟨hg, hj⟩, hon⟩ := hc
  have hm := replaced_small m.Leaves
  simp only [g_plan_items]
  have h1 := pitems_loop1 hg (m := m) hm.1 (by omega) 21 [] (by omega) (by simp)
  rw [show ((21 : Nat) : Int) - 1 = 20 from rfl] at h1
  rw [h1]
  simp only [List.nil_append, Option.bind_some]
  have hu := itemsUp_len t (replaced m.Leaves) 21
  have hloop := lfp_list (f := g_plan_items_r3) m.Joins (fun i (a : List Co.Item) => (((), (), replaced m.Leaves, m.Joins, (m.Joins.length : Int), (i : Int), ()), (t, a, ()), ()))
    (fun a s => Sum.inl (a ++ joinItems t (replaced m.Leaves) s.Slot)) (fun i todo a => a.length ≤ 84 + 3 * i ∧ ∀ s ∈ todo, betw s.Slot 0 63 = true ∧ isOn t.Roster s.Slot.toNat = true) (fun a => (((), ()), (a, ()), ()))
    (fun i x rest a _ hi hx ⟨ha, hon⟩ => by
      refine ⟨fun a' ha' => ?_, ?_⟩
      · simp only [Sum.inl.injEq] at ha'
        subst ha'
        have := legItems_len t (replaced m.Leaves) x.Slot 3
        refine ⟨?_, fun s hs => hon s (List.mem_cons_of_mem _ hs)⟩
        rw [List.length_append, show joinItems t (replaced m.Leaves) x.Slot = legItems t (replaced m.Leaves) x.Slot 3 from rfl]; omega
      · have g1 : (i : Int) < (m.Joins.length : Int) := by omega
        obtain ⟨o1, o2⟩ := hon x (List.mem_cons_self ..)
        have o1 := betw_iff.1 o1
        have hl4 := pitems_loop4 hg (M := replaced m.Leaves) hm.1 (by omega) (acc := a) (s := x) (k := x.Slot.toNat) (by omega) (by omega) o2 (j := m.Joins) (d := (m.Joins.length : Int)) (e := (i : Int)) (by omega)
        simp only [g_plan_items_r3, g1, hx, decide_true, cond_true, Int.natCast_nonneg, Bool.and_self]
        rw [show (bif decide (0 ≤ leaf x.Slot) then pathN x.Slot else zero3) = pathG x.Slot from rfl, hl4]
        simp only [Option.bind_some, wrap1' hi (by omega)])
    (fun a _ => by simp [g_plan_items_r3]) m.Joins 0 (itemsUp t (replaced m.Leaves) 21) rfl (by omega) ⟨by omega, hon⟩
  rw [join_items_fold] at hloop
  rw [show lfp g_plan_items_r3 (((), (), replaced m.Leaves, m.Joins, (m.Joins.length : Int), 0, ()), (t, itemsUp t (replaced m.Leaves) 21, ()), ()) = _ from hloop]
  rfl
theorem calls_next {t : Tree} {b : Batch} (h : (nextT t b).e = 0) (e : Int) (l : List Co.Seat) (i : List Co.Item) : calls (nextT t b).t ⟨e, l, (nextT t b).joined, i⟩ = true := by
  obtain ⟨h1, _, h2, _⟩ := nextT_joined h
  unfold calls
  simp only [Bool.and_eq_true, decide_eq_true_eq, List.all_eq_true]
  refine ⟨⟨nx_good h, by rw [h1]; exact h2⟩, fun s hs => ?_⟩
  obtain ⟨k, hk, he, hon, _⟩ := joined_on h hs
  rw [he]
  exact ⟨betw_iff.2 (by omega), by rw [Int.toNat_natCast]; exact hon⟩
theorem eq_plan_Next : Eqs c_plan_Next g_plan_Next := Eqs.tot fun (t, b, _) _ => by
  change Tree at t
  change Batch at b
  show g_plan_Next (t, b, ()) = some ((nextR t b).1, (nextR t b).2.1, (nextR t b).2.2, ())
  simp only [g_plan_Next]
  by_cases h : (nextT t b).e = 0
  · rw [nextR_is h, calls_next h]
    simp only [h, decide_true, Bool.not_true, cond_true, cond_false, Option.bind_some]
    rfl
  · have hr : nextR t b = (zeroT, St.zero .rekey, (nextT t b).e) := by unfold nextR; rw [decide_eq_false h]; rfl
    simp only [h, decide_false, Bool.not_false, cond_true, hr]; rfl
end Go.Co.N
end

section
namespace Go.Co.N
open Go Go.Co

theorem cntTo_cntP {m : Int} {p : Nat → Bool} : ∀ n : Nat, (∀ v : Nat, v < n → inB m (v : Int) = p v) → cntTo m n = (cntP p n : Int)
  | 0, _ => rfl
  | n + 1, h => by
    simp only [cntTo, cntP]
    rw [cntTo_cntP n fun v hv => h v (by omega), h n (by omega)]
    cases p n <;> simp
theorem cntP_or (p q : Nat → Bool) : ∀ n, cntP (fun i => p i || q i) n ≤ cntP p n + cntP q n
  | 0 => by simp [cntP]
  | n + 1 => by
    have := cntP_or p q n
    simp only [cntP]
    cases p n <;> cases q n <;> simp <;> omega
theorem cnt_path : allN 64 (fun s => decide (cntP (fun v => below v (leaf s)) 21 ≤ 3)) = true := by decide +kernel
theorem cnt_path_le (s : Int) : cntP (fun v => below v (leaf s)) 21 ≤ 3 := by
  by_cases h : 0 ≤ s ∧ s < 64
  · obtain ⟨k, rfl⟩ := Int.eq_ofNat_of_zero_le h.1
    have := allN_iff.1 cnt_path k (by omega)
    simpa using this
  · have hl : leaf s = -1 := by unfold leaf; rw [if_neg h]
    rw [hl]
    have : cntP (fun v : Nat => below (v : Int) (-1)) 21 = cntP (fun _ => false) 21 := cntP_congr 21 fun v _ => by simp [below, node]
    rw [this]; decide
theorem cnt_hit : ∀ l : List Co.Seat, cntP (hitB l) 21 ≤ 3 * l.length
  | [] => by
    have : cntP (hitB []) 21 = cntP (fun _ => false) 21 := cntP_congr 21 fun v _ => by simp [hitB]
    rw [this]; decide
  | s :: l => by
    have h1 := cnt_hit l
    have h2 := cnt_path_le s.Slot
    have h3 := cntP_or (fun v : Nat => below (v : Int) (leaf s.Slot)) (hitB l) 21
    have : cntP (hitB (s :: l)) 21 = cntP (fun v : Nat => below (v : Int) (leaf s.Slot) || hitB l v) 21 := cntP_congr 21 fun v _ => by simp [hitB]
    rw [this, List.length_cons]; omega
theorem inB_word {p : Nat → Bool} {v : Nat} (hv : v < 21) : inB ((word p 21 : Nat) : Int) (v : Int) = p v := by
  have := bitI_word p 21 v
  unfold bitI at this
  simp only [hv, decide_true, Bool.true_and] at this
  rw [← this]
  unfold inB
  have h0 : 0 ≤ (v : Int) := by omega
  have h1 : (v : Int) < 32 := by omega
  simp [h0, h1]
theorem cnt_replaced (l : List Co.Seat) : cntTo (replaced l) 21 ≤ 3 * (l.length : Int) := by
  rw [cntTo_cntP (p := hitB l) 21 fun v hv => by rw [replaced_eq]; exact inB_word hv]
  have := cnt_hit l
  omega
theorem itemsUp_cnt (t : Tree) (m : Int) : ∀ n : Nat, ((itemsUp t m n).length : Int) ≤ 4 * cntTo m n
  | 0 => by simp [itemsUp, cntTo]
  | n + 1 => by
    have h1 := itemsUp_cnt t m n
    have h2 := nodeItems_len t m n
    simp only [itemsUp, List.length_append, cntTo]
    cases hb : inB m (n : Int) with
    | true => simp; omega
    | false =>
      have : nodeItems t m n = [] := by unfold nodeItems; rw [hb]; rfl
      rw [this]; simp; omega
theorem items_cost (t : Tree) (left joined : List Co.Seat) : ((items t left joined).length : Int) ≤ 12 * ((left.length : Int) + (joined.length : Int)) := by
  have h1 := itemsUp_cnt t (replaced left) 21
  have h2 := cnt_replaced left
  have h3 := flat_len t (replaced left) joined
  unfold items
  rw [List.length_append]
  omega
theorem eq_law12_PlanCosts : Eqs c_law12_PlanCosts g_law12_PlanCosts := Eqs.tot fun (t, b, _) _ => by
  change Tree at t
  change Batch at b
  show g_law12_PlanCosts (t, b, ()) = some (true, ())
  simp only [g_law12_PlanCosts]
  by_cases h : (nextT t b).e = 0
  · obtain ⟨hj, hl, hj2, hl2⟩ := nextT_joined h
    have hc := items_cost (nextT t b).t (nextT t b).left (nextT t b).joined
    rw [nextR_is h]
    show (bif decide (((items (nextT t b).t (nextT t b).left (nextT t b).joined).length : Int) ≤ IntKind.wrap IntKind.i64 (12 * IntKind.wrap IntKind.i64 (((nextT t b).left.length : Int) + ((nextT t b).joined.length : Int)))) then
      bif !decide ((0 : Int) = 0) then some (true, ()) else bif decide (((nextT t b).left.length : Int) = (b.Leaves.length : Int)) then some (decide (((nextT t b).joined.length : Int) = (b.Joins.length : Int)), ()) else some (false, ()) else some (false, ())) = _
    rw [i64_in (((nextT t b).left.length : Int) + ((nextT t b).joined.length : Int)) (by omega), i64_in (12 * (((nextT t b).left.length : Int) + ((nextT t b).joined.length : Int))) (by omega), decide_eq_true hc, hl, hj]
    simp
  · have hr : nextR t b = (zeroT, St.zero .rekey, (nextT t b).e) := by unfold nextR; rw [decide_eq_false h]; rfl
    rw [hr]
    show (bif decide ((0 : Int) ≤ IntKind.wrap IntKind.i64 (12 * IntKind.wrap IntKind.i64 (0 + 0))) then bif !decide ((nextT t b).e = 0) then some (true, ()) else bif decide ((0 : Int) = (b.Leaves.length : Int)) then some (decide ((0 : Int) = (b.Joins.length : Int)), ()) else some (false, ()) else some (false, ())) = _
    have : (0 : Int) ≤ IntKind.wrap IntKind.i64 (12 * IntKind.wrap IntKind.i64 (0 + 0)) := by decide
    rw [decide_eq_true this, decide_eq_false h]; rfl
end Go.Co.N
end

section
namespace Go.Co.N
open Go Go.Co

/-- Each name from lo to hi was seen once, no other. -/
def SpanM (h : List (Int × Int)) (lo hi : Int) : Prop := ∀ x, mget h x = if lo ≤ x ∧ x < hi then some 1 else none
def seeI (h : List (Int × Int)) (x : Int) : List (Int × Int) := mput h x (IntKind.wrap IntKind.i64 (Option.getD (mget h x) 0 + 1))
theorem SpanM.nil (a : Int) : SpanM [] a a := fun x => by
  have : ¬ (a ≤ x ∧ x < a) := by omega
  rw [if_neg this]; rfl
theorem SpanM.see {h : List (Int × Int)} {lo hi x : Int} (hs : SpanM h lo hi) (hx : ¬ (lo ≤ x ∧ x < hi)) (c : Int) : mget (seeI h x) c = if x = c then some 1 else if lo ≤ c ∧ c < hi then some 1 else none := by
  unfold seeI
  rw [mget_mput, hs x, if_neg hx, hs c]
  rfl
theorem SpanM.down {h : List (Int × Int)} {lo hi : Int} (hs : SpanM h lo hi) (hle : lo ≤ hi) : SpanM (seeI h (lo - 1)) (lo - 1) hi := fun c => by
  rw [hs.see (by omega)]
  by_cases h1 : lo - 1 = c
  · rw [if_pos h1, if_pos (by omega)]
  · by_cases h2 : lo ≤ c ∧ c < hi
    · rw [if_neg h1, if_pos h2, if_pos (by omega)]
    · rw [if_neg h1, if_neg h2, if_neg (by omega)]
theorem SpanM.up {h : List (Int × Int)} {lo hi : Int} (hs : SpanM h lo hi) (hle : lo ≤ hi) : SpanM (seeI h hi) lo (hi + 1) := fun c => by
  rw [hs.see (by omega)]
  by_cases h1 : hi = c
  · rw [if_pos h1, if_pos (by omega)]
  · by_cases h2 : lo ≤ c ∧ c < hi
    · rw [if_neg h1, if_pos h2, if_pos (by omega)]
    · rw [if_neg h1, if_neg h2, if_neg (by omega)]
/-- The names of the first v nodes. -/
def seenTo (m f c : Int) : Nat → List (Int × Int)
  | 0 => []
  | v + 1 => bif inB m (v : Int) then seeI (seenTo m f c v) (f + (c - cntTo m (v + 1))) else seenTo m f c v
theorem cntTo_in {m : Int} {v : Nat} (h : inB m (v : Int) = true) : cntTo m (v + 1) = cntTo m v + 1 := by simp [cntTo, h]
theorem cntTo_out {m : Int} {v : Nat} (h : inB m (v : Int) = false) : cntTo m (v + 1) = cntTo m v := by simp [cntTo, h]
theorem seenTo_span (m f c : Int) : ∀ v, SpanM (seenTo m f c v) (f + c - cntTo m v) (f + c)
  | 0 => by
    have := SpanM.nil (f + c)
    simp only [seenTo, cntTo, Int.sub_zero]; exact this
  | v + 1 => by
    have ih := seenTo_span m f c v
    have hc := cntTo_le m v
    cases hb : inB m (v : Int) with
    | false =>
      rw [cntTo_out hb]
      simp only [seenTo, hb, cond_false]; exact ih
    | true =>
      have := ih.down (by omega)
      simp only [seenTo, hb, cond_true, cntTo_in hb]
      rw [show f + (c - (cntTo m v + 1)) = f + c - cntTo m v - 1 by omega, show f + c - (cntTo m v + 1) = f + c - cntTo m v - 1 by omega]
      exact this
def seenJ (h : List (Int × Int)) (b : Int) : Nat → List (Int × Int)
  | 0 => h
  | i + 1 => seeI (seenJ h b i) (b + i)
theorem seenJ_span {h : List (Int × Int)} {lo b : Int} (hs : SpanM h lo b) (hle : lo ≤ b) : ∀ i : Nat, SpanM (seenJ h b i) lo (b + i)
  | 0 => by simpa [seenJ] using hs
  | i + 1 => by
    have := (seenJ_span hs hle i).up (by omega)
    simp only [seenJ]
    rw [show b + ((i + 1 : Nat) : Int) = b + i + 1 by omega]
    exact this
theorem eq_law12_PlanFresh : Eqs c_law12_PlanFresh g_law12_PlanFresh := Eqs.tot fun (t, b, _) _ => by
  change Tree at t
  change Batch at b
  show g_law12_PlanFresh (t, b, ()) = some (true, ())
  simp only [g_law12_PlanFresh]
  by_cases h : (nextT t b).e = 0
  case neg =>
    have hr : (nextR t b).2.2 = (nextT t b).e := nextR_e
    rw [hr, decide_eq_false h]; rfl
  rw [nextR_is h]
  simp only [decide_true, Bool.not_true, cond_false]
  obtain ⟨hk, hgk, hm, hfree, hstp⟩ := nx_turn h
  obtain ⟨hj, hl, hj2, hl2⟩ := nextT_joined h
  obtain ⟨hr1, hr2, hr3⟩ := nx_room h
  have hfe := nx_fresh h
  have hc := cntTo_le (replaced (nextT t b).left) 21
  have hml : (msgOf t b).Leaves = (nextT t b).left := rfl
  have hmj : (msgOf t b).Joins = (nextT t b).joined := rfl
  -- the nodes
  have hstep := fun v (hv : v < 21) => goodKeys_iff.1 hgk v hv
  have l1 : lfp g_law12_PlanFresh_r1 (((), (), (), (), 0, 0, ()), (t, (nextT t b).t, msgOf t b, ()), [], ()) =
      some (Sum.inr (((), (), (), (), cntTo (replaced (nextT t b).left) 21, ()), (t, (nextT t b).t, msgOf t b, ()), seenTo (replaced (nextT t b).left) t.Fresh (cntTo (replaced (nextT t b).left) 21) 21, ())) := by
    rw [lfp_run' (fun v => (((), (), (), (), cntTo (replaced (nextT t b).left) v, (v : Int), ()), (t, (nextT t b).t, msgOf t b, ()), seenTo (replaced (nextT t b).left) t.Fresh (cntTo (replaced (nextT t b).left) 21) v, ())) 21 (by rfl) fun v hv => by
      have g1 : (v : Int) < 21 := by omega
      have hcv := cntTo_le (replaced (nextT t b).left) v
      have hkv : Arr.get (nextT t b).t.Keys (v : Int) = turnedAt t.Keys (replaced (nextT t b).left) t.Fresh v := by rw [hk]; exact turned_get _ _ _ v hv
      simp only [g_law12_PlanFresh_r1, g1, decide_true, cond_true, Int.natCast_nonneg, Bool.and_self, hml, hkv, wrap1 v (by omega)]
      cases hb : inB (replaced (nextT t b).left) (v : Int) with
      | true =>
        simp only [cond_true, seenTo, hb, cntTo_in hb]
        rw [i64_in (cntTo (replaced (nextT t b).left) v + 1) (by omega)]
        unfold turnedAt seeI
        rw [if_pos hb]
        simp only [cntTo_in hb]
      | false =>
        have hg := (hstep v hv).1
        have hs : stp t.Keys v < 255 := (hstp v hv).resolve_left (by rw [hb]; simp)
        have hgs : _ ∧ 0 ≤ stp t.Keys v ∧ _ := (good_iff.1 hg).2
        have e1 : (turnedAt t.Keys (replaced (nextT t b).left) t.Fresh v) = ⟨bas t.Keys v, stp t.Keys v + 1⟩ := kept_at (by rw [hb]; simp)
        rw [e1]
        simp only [cond_false, seenTo, hb, cntTo_out hb]
        have e3 : (Arr.get t.Keys (v : Int)).Step = stp t.Keys v := rfl
        rw [e3, i64_in (stp t.Keys v + 1) (by omega)]
        simp]
    exact lfp_inr (by simp [g_law12_PlanFresh_r1])
  rw [l1]
  simp only [Option.bind_some, Sum.elim_inr, hmj]
  -- the joiners
  have sp1 := seenTo_span (replaced (nextT t b).left) t.Fresh (cntTo (replaced (nextT t b).left) 21) 21
  rw [show t.Fresh + cntTo (replaced (nextT t b).left) 21 - cntTo (replaced (nextT t b).left) 21 = t.Fresh by omega] at sp1
  generalize seenTo (replaced (nextT t b).left) t.Fresh (cntTo (replaced (nextT t b).left) 21) 21 = h1 at sp1 ⊢
  have l2 : lfp g_law12_PlanFresh_r2 (((), (), (), cntTo (replaced (nextT t b).left) 21, (nextT t b).joined, ((nextT t b).joined.length : Int), 0, ()), (t, (nextT t b).t, ()), h1, ()) =
      some (((), (), (), cntTo (replaced (nextT t b).left) 21 + (nextT t b).joined.length, ()), (t, (nextT t b).t, ()), seenJ h1 (t.Fresh + cntTo (replaced (nextT t b).left) 21) (nextT t b).joined.length, ()) := by
    rw [lfp_run' (fun i => (((), (), (), cntTo (replaced (nextT t b).left) 21 + (i : Int), (nextT t b).joined, ((nextT t b).joined.length : Int), (i : Int), ()), (t, (nextT t b).t, ()), seenJ h1 (t.Fresh + cntTo (replaced (nextT t b).left) 21) i, ())) (nextT t b).joined.length (by simp [seenJ]) fun i hi => by
      have g1 : (i : Int) < ((nextT t b).joined.length : Int) := by omega
      have hib : i < b.Joins.length := by omega
      obtain ⟨s, hs, ha, he, _⟩ := (nx_moved h).1 i b.Joins[i] (List.getElem?_eq_getElem hib)
      have hlat : lat (nextT t b).joined (i : Int) = ⟨b.Joins[i], (s : Int)⟩ := by
        rw [lat_nat _ i hi]
        rw [List.getElem?_eq_getElem hi] at ha
        exact Option.some.inj ha
      have g2 : (s : Int) < 64 := by omega
      have hent : Arr.get (nextT t b).t.Roster (s : Int) = ent (nextT t b).t.Roster s := rfl
      simp only [g_law12_PlanFresh_r2, g1, g2, hlat, hent, he, decide_true, cond_true, Int.natCast_nonneg, Bool.and_self, wrap1' hi (by omega), seenJ, seeI]
      rw [i64_in (cntTo (replaced (nextT t b).left) 21 + (i : Int) + 1) (by omega)]
      rw [show cntTo (replaced (nextT t b).left) 21 + (i : Int) + 1 = cntTo (replaced (nextT t b).left) 21 + ((i + 1 : Nat) : Int) by omega]]
    exact lfp_inr (by simp [g_law12_PlanFresh_r2])
  rw [l2]
  simp only [Option.bind_some]
  have sp2 := seenJ_span sp1 (by omega) (nextT t b).joined.length
  generalize seenJ h1 (t.Fresh + cntTo (replaced (nextT t b).left) 21) (nextT t b).joined.length = h2 at sp2 ⊢
  -- each once
  have hn : 0 ≤ cntTo (replaced (nextT t b).left) 21 + ((nextT t b).joined.length : Int) := by omega
  obtain ⟨N, hN⟩ := Int.eq_ofNat_of_zero_le hn
  rw [hN]
  have l3 : lfp g_law12_PlanFresh_r3 (((), (), (), (N : Int), 0, ()), (t, (nextT t b).t, ()), h2, ()) = some (Sum.inr (((), (), (N : Int), ()), (t, (nextT t b).t, ()), ())) := by
    rw [lfp_run' (fun i => (((), (), (), (N : Int), (i : Int), ()), (t, (nextT t b).t, ()), h2, ())) N (by simp) fun i hi => by
      have g1 : (i : Int) < (N : Int) := by omega
      have hq : mget h2 (t.Fresh + (i : Int)) = some 1 := by rw [sp2, if_pos (by omega)]
      simp only [g_law12_PlanFresh_r3, g1, decide_true, cond_true]
      rw [i64_in (t.Fresh + (i : Int)) (by omega), hq, wrap1' hi (by omega)]
      rfl]
    exact lfp_inr (by simp [g_law12_PlanFresh_r3])
  rw [l3]
  simp only [Option.bind_some, Sum.elim_inr]
  rw [i64_in (t.Fresh + (N : Int)) (by omega), hfe]
  have : t.Fresh + cntTo (replaced (nextT t b).left) 21 + (b.Joins.length : Int) = t.Fresh + (N : Int) := by omega
  rw [decide_eq_true this]
end Go.Co.N
end

section
namespace Go.Proofs.YtplmbkgjaobhgaaDoor
open Go Go.Co Go.Co.N Go.Proofs
theorem ok_seats_Take : ConOK Tryd.prog 87 c_seats_Take := ok_seats_Take_of ok_seats_Count ok_seats_bit
noncomputable def L_roster_Move : List (Nat × LD) := [(11, ⟨⟨[(2, .hole .i), (3, .hole .i), (4, .ptr 0 []), (5, .ptr 1 []), (8, .ptr 2 []), (13, .row (.st .seat)), (14, .nils), (49, .hole (.list .i)), (50, .hole .i), (51, .hole .i)], [(0, (.arr 64 (.st .entry)), .hole (.arr 64 (.st .entry))), (1, (.st .batch), .hole (.st .batch)), (2, (.arr 64 (.st .entry)), .hole (.arr 64 (.st .entry)))], []⟩, [(.exit 1, ⟨[(2, .hole .i), (3, .hole .i), (4, .ptr 0 []), (5, .ptr 1 []), (8, .ptr 2 []), (13, .row (.st .seat)), (14, .nils)], [(0, (.arr 64 (.st .entry)), .hole (.arr 64 (.st .entry))), (1, (.st .batch), .hole (.st .batch)), (2, (.arr 64 (.st .entry)), .hole (.arr 64 (.st .entry)))], []⟩)], 13⟩), (19, ⟨⟨[(2, .hole .i), (3, .hole .i), (4, .ptr 0 []), (5, .ptr 1 []), (8, .ptr 2 []), (13, .row (.st .seat)), (14, .row (.st .seat)), (78, .hole (.list .i)), (79, .hole .i), (80, .hole .i)], [(0, (.arr 64 (.st .entry)), .hole (.arr 64 (.st .entry))), (1, (.st .batch), .hole (.st .batch)), (2, (.arr 64 (.st .entry)), .hole (.arr 64 (.st .entry)))], []⟩, [(.exit 3, ⟨[(4, .ptr 0 []), (8, .ptr 2 []), (13, .row (.st .seat)), (14, .row (.st .seat))], [(0, (.arr 64 (.st .entry)), .hole (.arr 64 (.st .entry))), (2, (.arr 64 (.st .entry)), .hole (.arr 64 (.st .entry)))], []⟩)], 14⟩)]
noncomputable def Ls_roster_Move : List (Nat × List (Nat × LD)) := []
noncomputable def B_roster_Move : Bodies := []
theorem run_roster_Move (x : denL [(.arr 64 (.st .entry)), (.st .batch), .i, .i]) : run [(57, c_roster_Fits), (86, c_roster_names), (82, c_roster_Find), (65, c_roster_Taken), (87, c_seats_Take)] L_roster_Move Ls_roster_Move B_roster_Move Tryd.f61 [(.arr 64 (.st .entry)), (.st .batch), .i, .i] [(.arr 64 (.st .entry)), (.list (.st .seat)), (.list (.st .seat)), .i] x = g_roster_Move x := by kernel_rfl
theorem ok_roster_Move : ConOK Tryd.prog 61 c_roster_Move := con_ok (ConsOK.cons ok_roster_Fits (ConsOK.cons ok_roster_names (ConsOK.cons ok_roster_Find (ConsOK.cons ok_roster_Taken (ConsOK.cons ok_seats_Take (ConsOK.nil)))))) L_roster_Move Ls_roster_Move (B := B_roster_Move) (BodiesOK.nil) Tryd.func61 rfl fun x y hf h => (run_roster_Move x).trans (eq_roster_Move x y hf h)
noncomputable def L_plan_step : List (Nat × LD) := []
noncomputable def Ls_plan_step : List (Nat × List (Nat × LD)) := []
noncomputable def B_plan_step : Bodies := []
theorem run_plan_step (x : denL [(.st .tree), (.st .batch)]) : run [(56, c_keytree_Check), (57, c_roster_Fits), (58, c_plan_leavers), (13, c_plan_Replaced), (59, c_bits_OnesCount32), (60, c_ratchet_Turn), (61, c_roster_Move)] L_plan_step Ls_plan_step B_plan_step Tryd.f38 [(.st .tree), (.st .batch)] [(.st .tree), (.st .rekey), .i] x = g_plan_step x := by kernel_rfl
theorem ok_plan_step : ConOK Tryd.prog 38 c_plan_step := con_ok (ConsOK.cons ok_keytree_Check (ConsOK.cons ok_roster_Fits (ConsOK.cons ok_plan_leavers (ConsOK.cons ok_plan_Replaced (ConsOK.cons ok_bits_OnesCount32 (ConsOK.cons ok_ratchet_Turn (ConsOK.cons ok_roster_Move (ConsOK.nil)))))))) L_plan_step Ls_plan_step (B := B_plan_step) (BodiesOK.nil) Tryd.func38 rfl fun x y hf h => (run_plan_step x).trans (eq_plan_step x y hf h)
noncomputable def L_plan_items : List (Nat × LD) := [(8, ⟨⟨[(3, .ptr 1 []), (5, .ptr 2 []), (6, .fn 62 [0, 2]), (7, .hole (.int .u64)), (8, .hole (.int .u32)), (9, .hole .i), (10, .hole .i)], [(0, (.st .tree), .hole (.st .tree)), (1, (.st .rekey), .hole (.st .rekey)), (2, (.list (.st .item)), .row (.st .item))], []⟩, [(.exit 2, ⟨[(3, .ptr 1 []), (5, .ptr 2 []), (6, .fn 62 [0, 2]), (7, .hole (.int .u64)), (8, .hole (.int .u32)), (9, .hole .i)], [(0, (.st .tree), .hole (.st .tree)), (1, (.st .rekey), .hole (.st .rekey)), (2, (.list (.st .item)), .row (.st .item))], []⟩)], 11⟩), (5, ⟨⟨[(3, .ptr 1 []), (5, .ptr 2 []), (6, .fn 62 [0, 2]), (7, .hole (.int .u64)), (8, .hole (.int .u32)), (9, .hole .i)], [(0, (.st .tree), .hole (.st .tree)), (1, (.st .rekey), .hole (.st .rekey)), (2, (.list (.st .item)), .row (.st .item))], []⟩, [(.exit 0, ⟨[(3, .ptr 1 []), (5, .ptr 2 []), (6, .fn 62 [0, 2]), (8, .hole (.int .u32))], [(0, (.st .tree), .hole (.st .tree)), (1, (.st .rekey), .hole (.st .rekey)), (2, (.list (.st .item)), .row (.st .item))], []⟩)], 21⟩), (18, ⟨⟨[(5, .ptr 2 []), (6, .fn 62 [0, 2]), (8, .hole (.int .u32)), (13, .ptr 25 []), (54, .hole (.list (.st .seat))), (55, .hole .i), (56, .hole .i), (66, .hole (.arr 3 .i)), (67, .hole .i)], [(0, (.st .tree), .hole (.st .tree)), (2, (.list (.st .item)), .row (.st .item)), (25, (.st .seat), .hole (.st .seat))], []⟩, [(.exit 6, ⟨[(5, .ptr 2 []), (6, .fn 62 [0, 2]), (8, .hole (.int .u32)), (54, .hole (.list (.st .seat))), (55, .hole .i), (56, .hole .i)], [(0, (.st .tree), .hole (.st .tree)), (2, (.list (.st .item)), .row (.st .item))], []⟩)], 11⟩), (14, ⟨⟨[(5, .ptr 2 []), (6, .fn 62 [0, 2]), (8, .hole (.int .u32)), (54, .hole (.list (.st .seat))), (55, .hole .i), (56, .hole .i)], [(0, (.st .tree), .hole (.st .tree)), (2, (.list (.st .item)), .row (.st .item))], []⟩, [(.exit 4, ⟨[(5, .ptr 2 [])], [(2, (.list (.st .item)), .row (.st .item))], []⟩)], 23⟩)]
noncomputable def Ls_plan_items : List (Nat × List (Nat × LD)) := []
noncomputable def B_plan_items : Bodies := [bodyLine 62 Tryd.f62]
theorem run_plan_items (x : denL [(.st .tree), (.st .rekey)]) : run [(64, c_plan_nodeKey), (63, c_key_Seal), (65, c_roster_Taken), (13, c_plan_Replaced), (66, c_shape_Child), (34, c_shape_Mask), (67, c_shape_Path), (35, c_shape_Leaf)] L_plan_items Ls_plan_items B_plan_items Tryd.f39 [(.st .tree), (.st .rekey)] [(.list (.st .item))] x = g_plan_items x := by kernel_rfl
theorem ok_plan_items : ConOK Tryd.prog 39 c_plan_items := con_ok (ConsOK.cons ok_plan_nodeKey (ConsOK.cons ok_key_Seal (ConsOK.cons ok_roster_Taken (ConsOK.cons ok_plan_Replaced (ConsOK.cons ok_shape_Child (ConsOK.cons ok_shape_Mask (ConsOK.cons ok_shape_Path (ConsOK.cons ok_shape_Leaf (ConsOK.nil))))))))) L_plan_items Ls_plan_items (B := B_plan_items) (BodiesOK.cons Tryd.func62 rfl (BodiesOK.nil)) Tryd.func39 rfl fun x y hf h => (run_plan_items x).trans (eq_plan_items x y hf h)
noncomputable def L_plan_Next : List (Nat × LD) := []
noncomputable def Ls_plan_Next : List (Nat × List (Nat × LD)) := []
noncomputable def B_plan_Next : Bodies := []
theorem run_plan_Next (x : denL [(.st .tree), (.st .batch)]) : run [(38, c_plan_step), (39, c_plan_items)] L_plan_Next Ls_plan_Next B_plan_Next Tryd.f16 [(.st .tree), (.st .batch)] [(.st .tree), (.st .rekey), .i] x = g_plan_Next x := by kernel_rfl
theorem ok_plan_Next : ConOK Tryd.prog 16 c_plan_Next := con_ok (ConsOK.cons ok_plan_step (ConsOK.cons ok_plan_items (ConsOK.nil))) L_plan_Next Ls_plan_Next (B := B_plan_Next) (BodiesOK.nil) Tryd.func16 rfl fun x y hf h => (run_plan_Next x).trans (eq_plan_Next x y hf h)
noncomputable def L_plan_Cost : List (Nat × LD) := []
noncomputable def Ls_plan_Cost : List (Nat × List (Nat × LD)) := []
noncomputable def B_plan_Cost : Bodies := []
theorem run_plan_Cost (x : denL [(.st .tree), (.st .batch)]) : run [(16, c_plan_Next)] L_plan_Cost Ls_plan_Cost B_plan_Cost Tryd.f32 [(.st .tree), (.st .batch)] [.i, .i] x = g_plan_Cost x := by kernel_rfl
theorem ok_plan_Cost : ConOK Tryd.prog 32 c_plan_Cost := con_ok (ConsOK.cons ok_plan_Next (ConsOK.nil)) L_plan_Cost Ls_plan_Cost (B := B_plan_Cost) (BodiesOK.nil) Tryd.func32 rfl fun x y hf h => (run_plan_Cost x).trans (eq_plan_Cost x y hf h)
noncomputable def L_law12_three : List (Nat × LD) := []
noncomputable def Ls_law12_three : List (Nat × List (Nat × LD)) := []
noncomputable def B_law12_three : Bodies := []
theorem run_law12_three (x : denL []) : run [(52, c_ref11_Start), (29, c_ref12_Next)] L_law12_three Ls_law12_three B_law12_three Tryd.f33 [] [(.st .tree)] x = g_law12_three x := by kernel_rfl
theorem ok_law12_three : ConOK Tryd.prog 33 c_law12_three := con_ok (ConsOK.cons ok_ref11_Start (ConsOK.cons ok_ref12_Next (ConsOK.nil))) L_law12_three Ls_law12_three (B := B_law12_three) (BodiesOK.nil) Tryd.func33 rfl fun x y hf h => (run_law12_three x).trans (eq_law12_three x y hf h)
noncomputable def L_law12_lives : List (Nat × LD) := []
noncomputable def Ls_law12_lives : List (Nat × List (Nat × LD)) := []
noncomputable def B_law12_lives : Bodies := []
theorem run_law12_lives (x : denL []) : run [(33, c_law12_three), (16, c_plan_Next)] L_law12_lives Ls_law12_lives B_law12_lives Tryd.f12 [] [.bool] x = g_law12_lives x := by kernel_rfl
theorem ok_law12_lives : ConOK Tryd.prog 12 c_law12_lives := con_ok (ConsOK.cons ok_law12_three (ConsOK.cons ok_plan_Next (ConsOK.nil))) L_law12_lives Ls_law12_lives (B := B_law12_lives) (BodiesOK.nil) Tryd.func12 rfl fun x y hf h => (run_law12_lives x).trans (eq_law12_lives x y hf h)
noncomputable def L_law12_PlanSteps : List (Nat × LD) := []
noncomputable def Ls_law12_PlanSteps : List (Nat × List (Nat × LD)) := []
noncomputable def B_law12_PlanSteps : Bodies := []
theorem run_law12_PlanSteps (x : denL [(.st .tree), (.st .batch)]) : run [(12, c_law12_lives), (16, c_plan_Next), (29, c_ref12_Next), (31, c_ref12_Same), (25, c_ref11_Check), (32, c_plan_Cost)] L_law12_PlanSteps Ls_law12_PlanSteps B_law12_PlanSteps Tryd.f11 [(.st .tree), (.st .batch)] [.bool] x = g_law12_PlanSteps x := by kernel_rfl
theorem ok_law12_PlanSteps : ConOK Tryd.prog 11 c_law12_PlanSteps := con_ok (ConsOK.cons ok_law12_lives (ConsOK.cons ok_plan_Next (ConsOK.cons ok_ref12_Next (ConsOK.cons ok_ref12_Same (ConsOK.cons ok_ref11_Check (ConsOK.cons ok_plan_Cost (ConsOK.nil))))))) L_law12_PlanSteps Ls_law12_PlanSteps (B := B_law12_PlanSteps) (BodiesOK.nil) Tryd.func11 rfl fun x y hf h => (run_law12_PlanSteps x).trans (eq_law12_PlanSteps x y hf h)
noncomputable def L_law12_PlanCosts : List (Nat × LD) := []
noncomputable def Ls_law12_PlanCosts : List (Nat × List (Nat × LD)) := []
noncomputable def B_law12_PlanCosts : Bodies := []
theorem run_law12_PlanCosts (x : denL [(.st .tree), (.st .batch)]) : run [(12, c_law12_lives), (16, c_plan_Next)] L_law12_PlanCosts Ls_law12_PlanCosts B_law12_PlanCosts Tryd.f4 [(.st .tree), (.st .batch)] [.bool] x = g_law12_PlanCosts x := by kernel_rfl
theorem ok_law12_PlanCosts : ConOK Tryd.prog 4 c_law12_PlanCosts := con_ok (ConsOK.cons ok_law12_lives (ConsOK.cons ok_plan_Next (ConsOK.nil))) L_law12_PlanCosts Ls_law12_PlanCosts (B := B_law12_PlanCosts) (BodiesOK.nil) Tryd.func4 rfl fun x y hf h => (run_law12_PlanCosts x).trans (eq_law12_PlanCosts x y hf h)
noncomputable def L_law12_PlanFresh : List (Nat × LD) := [(9, ⟨⟨[(2, .ptr 0 []), (5, .ptr 2 []), (6, .ptr 3 []), (8, .mp 4), (9, .hole .i), (10, .hole .i)], [(0, (.st .tree), .hole (.st .tree)), (2, (.st .tree), .hole (.st .tree)), (3, (.st .rekey), .hole (.st .rekey))], [(4, .i, .i)]⟩, [(.ret, ⟨[(4, .hole .bool)], [], []⟩), (.exit 0, ⟨[(2, .ptr 0 []), (5, .ptr 2 []), (6, .ptr 3 []), (8, .mp 4), (9, .hole .i)], [(0, (.st .tree), .hole (.st .tree)), (2, (.st .tree), .hole (.st .tree)), (3, (.st .rekey), .hole (.st .rekey))], [(4, .i, .i)]⟩)], 11⟩), (18, ⟨⟨[(2, .ptr 0 []), (5, .ptr 2 []), (8, .mp 4), (9, .hole .i), (67, .hole (.list (.st .seat))), (68, .hole .i), (69, .hole .i)], [(0, (.st .tree), .hole (.st .tree)), (2, (.st .tree), .hole (.st .tree))], [(4, .i, .i)]⟩, [(.exit 2, ⟨[(2, .ptr 0 []), (5, .ptr 2 []), (8, .mp 4), (9, .hole .i)], [(0, (.st .tree), .hole (.st .tree)), (2, (.st .tree), .hole (.st .tree))], [(4, .i, .i)]⟩)], 11⟩), (24, ⟨⟨[(2, .ptr 0 []), (5, .ptr 2 []), (8, .mp 4), (9, .hole .i), (14, .hole .i)], [(0, (.st .tree), .hole (.st .tree)), (2, (.st .tree), .hole (.st .tree))], [(4, .i, .i)]⟩, [(.ret, ⟨[(4, .hole .bool)], [], []⟩), (.exit 4, ⟨[(2, .ptr 0 []), (5, .ptr 2 []), (9, .hole .i)], [(0, (.st .tree), .hole (.st .tree)), (2, (.st .tree), .hole (.st .tree))], []⟩)], 10⟩)]
noncomputable def Ls_law12_PlanFresh : List (Nat × List (Nat × LD)) := []
noncomputable def B_law12_PlanFresh : Bodies := []
theorem run_law12_PlanFresh (x : denL [(.st .tree), (.st .batch)]) : run [(12, c_law12_lives), (16, c_plan_Next), (13, c_plan_Replaced), (24, c_ref01_In)] L_law12_PlanFresh Ls_law12_PlanFresh B_law12_PlanFresh Tryd.f8 [(.st .tree), (.st .batch)] [.bool] x = g_law12_PlanFresh x := by kernel_rfl
theorem ok_law12_PlanFresh : ConOK Tryd.prog 8 c_law12_PlanFresh := con_ok (ConsOK.cons ok_law12_lives (ConsOK.cons ok_plan_Next (ConsOK.cons ok_plan_Replaced (ConsOK.cons ok_ref01_In (ConsOK.nil))))) L_law12_PlanFresh Ls_law12_PlanFresh (B := B_law12_PlanFresh) (BodiesOK.nil) Tryd.func8 rfl fun x y hf h => (run_law12_PlanFresh x).trans (eq_law12_PlanFresh x y hf h)
end Go.Proofs.YtplmbkgjaobhgaaDoor
end

section
namespace Go.Co.N
open Go Go.Co

def followZ (was : Tree) (m : Rekey) (v b : Int) (k : Key) : Key × Bool :=
  bif inB (replaced m.Leaves) v then openedR m v b k else ((ahead (Arr.get was.Keys v) 1).1, decide ((ahead (Arr.get was.Keys v) 1).2 = 0))
/-- Up the path from below: does each key come out right? -/
def followB (was now : Tree) (m : Rekey) (s : Int) : Nat → Nat → Int → Key → Bool
  | 0, _, _, _ => true
  | d + 1, i, b, k =>
    bif (followZ was m (Arr.get (pathG s) (i : Int)) b k).2 && decide ((followZ was m (Arr.get (pathG s) (i : Int)) b k).1 = Arr.get now.Keys (Arr.get (pathG s) (i : Int))) then
      followB was now m s d (i + 1) (Arr.get (pathG s) (i : Int)) (followZ was m (Arr.get (pathG s) (i : Int)) b k).1
    else false
abbrev c_law12_follows : Con := ⟨[.st .tree, .st .tree, .st .rekey, .i], [.bool], fun x => some (followB x.1 x.2.1 x.2.2.1 x.2.2.2.1 3 0 (leaf x.2.2.2.1) (ofT x.2.1 (leaf x.2.2.2.1)).1, ())⟩
def enterZ (m : Rekey) (s v b : Int) (l k : Key) : Key × Bool :=
  bif (openedR m v (leaf s) l).2 then openedR m v (leaf s) l else openedR m v b k
def enterB (now : Tree) (m : Rekey) (s : Int) (l : Key) : Nat → Nat → Int → Key → Bool
  | 0, _, _, _ => true
  | d + 1, i, b, k =>
    bif (enterZ m s (Arr.get (pathG s) (i : Int)) b l k).2 && decide ((enterZ m s (Arr.get (pathG s) (i : Int)) b l k).1 = Arr.get now.Keys (Arr.get (pathG s) (i : Int))) then
      enterB now m s l d (i + 1) (Arr.get (pathG s) (i : Int)) (enterZ m s (Arr.get (pathG s) (i : Int)) b l k).1
    else false
def entersB (now : Tree) (m : Rekey) (s : Int) : Bool := bif decide ((ofT now (leaf s)).2 = 0) then enterB now m s (ofT now (leaf s)).1 3 0 (leaf s) (ofT now (leaf s)).1 else false
abbrev c_law12_enters : Con := ⟨[.st .tree, .st .rekey, .i], [.bool], fun x => some (entersB x.1 x.2.1 x.2.2.1, ())⟩
end Go.Co.N
end

section
set_option maxRecDepth 100000
noncomputable section
namespace Go.Co.N
open Go Go.Co
def g_law12_follows_r1 : (Unit × Unit × Unit × Unit × Int × Int × Unit × Int × Unit) × (Tree × Tree × Rekey × Vector Int 3 × Key × Unit) × Unit → Option (((Unit × Unit × Unit × Unit × Int × Int × Unit × Int × Unit) × (Tree × Tree × Rekey × Vector Int 3 × Key × Unit) × Unit) ⊕ ((Bool × Unit) × Unit × Unit ⊕ Unit × Unit × Unit))
  | ((_, _, _, _, a, b, _, c, _), (d, e, f, g, h, _), _) => bif decide (c < 3) then bif decide (0 ≤ c) && decide (c < 3) then bif decide (0 ≤ Arr.get g c) && decide (Arr.get g c < 21) then bif decide (0 ≤ c) && decide (c < 3) then bif inB a (Arr.get g c) then bif decide (0 ≤ c) && decide (c < 3) then bif !(openedR f (Arr.get g c) b h).snd then some (Sum.inr (Sum.inl ((false, ()), (), ()))) else bif decide (0 ≤ c) && decide (c < 3) then bif decide (0 ≤ Arr.get g c) && decide (Arr.get g c < 21) then bif !decide ((openedR f (Arr.get g c) b h).fst = Arr.get e.Keys (Arr.get g c)) then some (Sum.inr (Sum.inl ((false, ()), (), ()))) else bif decide (0 ≤ c) && decide (c < 3) then some (Sum.inl (((), (), (), (), a, Arr.get g c, (), IntKind.wrap IntKind.i64 (c + 1), ()), (d, e, f, g, (openedR f (Arr.get g c) b h).fst, ()), ())) else none else none else none else none else bif !decide ((N.ahead (Arr.get d.Keys (Arr.get g c)) 1).snd = 0) then some (Sum.inr (Sum.inl ((false, ()), (), ()))) else bif decide (0 ≤ c) && decide (c < 3) then bif decide (0 ≤ Arr.get g c) && decide (Arr.get g c < 21) then bif !decide ((N.ahead (Arr.get d.Keys (Arr.get g c)) 1).fst = Arr.get e.Keys (Arr.get g c)) then some (Sum.inr (Sum.inl ((false, ()), (), ()))) else bif decide (0 ≤ c) && decide (c < 3) then some (Sum.inl (((), (), (), (), a, Arr.get g c, (), IntKind.wrap IntKind.i64 (c + 1), ()), (d, e, f, g, (N.ahead (Arr.get d.Keys (Arr.get g c)) 1).fst, ()), ())) else none else none else none else none else none else none else some (Sum.inr (Sum.inr ((), (), ())))
/-- coterie/coterielaw12.follows -/
def g_law12_follows : Tree × Tree × Rekey × Int × Unit → Option (Bool × Unit)
  | (a, b, c, d, _) => Option.bind (lfp g_law12_follows_r1 (((), (), (), (), replaced c.Leaves, leaf d, (), 0, ()), (a, b, c, bif decide (0 ≤ leaf d) then pathN d else zero3, (ofT b (leaf d)).fst, ()), ())) fun z => Sum.elim (fun x => some (x.fst.fst, ())) (fun _ => some (true, ())) z
def g_law12_enters_r1 : (Int × Unit × Unit × Unit × Unit × Int × Unit × Int × Unit) × (Tree × Rekey × Key × Vector Int 3 × Key × Unit) × Unit → Option (((Int × Unit × Unit × Unit × Unit × Int × Unit × Int × Unit) × (Tree × Rekey × Key × Vector Int 3 × Key × Unit) × Unit) ⊕ ((Bool × Unit) × Unit × Unit ⊕ Unit × Unit × Unit))
  | ((a, _, _, _, _, b, _, c, _), (d, e, f, g, h, _), _) => bif decide (c < 3) then bif decide (0 ≤ c) && decide (c < 3) then bif !(openedR e (Arr.get g c) (leaf a) f).snd then bif decide (0 ≤ c) && decide (c < 3) then bif !(openedR e (Arr.get g c) b h).snd then some (Sum.inr (Sum.inl ((false, ()), (), ()))) else bif decide (0 ≤ c) && decide (c < 3) then bif decide (0 ≤ Arr.get g c) && decide (Arr.get g c < 21) then bif !decide ((openedR e (Arr.get g c) b h).fst = Arr.get d.Keys (Arr.get g c)) then some (Sum.inr (Sum.inl ((false, ()), (), ()))) else bif decide (0 ≤ c) && decide (c < 3) then some (Sum.inl ((a, (), (), (), (), Arr.get g c, (), IntKind.wrap IntKind.i64 (c + 1), ()), (d, e, f, g, (openedR e (Arr.get g c) b h).fst, ()), ())) else none else none else none else none else bif !(openedR e (Arr.get g c) (leaf a) f).snd then some (Sum.inr (Sum.inl ((false, ()), (), ()))) else bif decide (0 ≤ c) && decide (c < 3) then bif decide (0 ≤ Arr.get g c) && decide (Arr.get g c < 21) then bif !decide ((openedR e (Arr.get g c) (leaf a) f).fst = Arr.get d.Keys (Arr.get g c)) then some (Sum.inr (Sum.inl ((false, ()), (), ()))) else bif decide (0 ≤ c) && decide (c < 3) then some (Sum.inl ((a, (), (), (), (), Arr.get g c, (), IntKind.wrap IntKind.i64 (c + 1), ()), (d, e, f, g, (openedR e (Arr.get g c) (leaf a) f).fst, ()), ())) else none else none else none else none else some (Sum.inr (Sum.inr ((), (), ())))
/-- coterie/coterielaw12.enters -/
def g_law12_enters : Tree × Rekey × Int × Unit → Option (Bool × Unit)
  | (a, b, c, _) => bif !decide ((ofT a (leaf c)).snd = 0) then some (false, ()) else Option.bind (lfp g_law12_enters_r1 ((c, (), (), (), (), leaf c, (), 0, ()), (a, b, (ofT a (leaf c)).fst, bif decide (0 ≤ leaf c) then pathN c else zero3, (ofT a (leaf c)).fst, ()), ())) fun z => Sum.elim (fun x => some (x.fst.fst, ())) (fun _ => some (true, ())) z
def g_law12_PlanHeard_r1 : (Unit × Unit × Unit × Unit × List Seat × Int × Int × Unit) × (Tree × Tree × Rekey × Unit) × List (Int × Int) × Unit → Option (((Unit × Unit × Unit × Unit × List Seat × Int × Int × Unit) × (Tree × Tree × Rekey × Unit) × List (Int × Int) × Unit) ⊕ ((Unit × Unit × Unit × Unit × Unit) × (Tree × Tree × Rekey × Unit) × List (Int × Int) × Unit))
  | ((_, _, _, _, a, b, c, _), (d, e, f, _), g, _) => bif decide (c < b) then bif decide (0 ≤ c) && decide (c < (↑(List.length a) : Int)) then some (Sum.inl (((), (), (), (), a, b, IntKind.wrap IntKind.i64 (c + 1), ()), (d, e, f, ()), mput g (lat a c).Slot 1, ())) else none else some (Sum.inr (((), (), (), (), ()), (d, e, f, ()), g, ()))
def g_law12_PlanHeard_r2 : (Unit × Unit × Unit × Unit × Int × Unit) × (Tree × Tree × Rekey × Unit) × List (Int × Int) × Unit → Option (((Unit × Unit × Unit × Unit × Int × Unit) × (Tree × Tree × Rekey × Unit) × List (Int × Int) × Unit) ⊕ ((Bool × Unit) × Unit × Unit ⊕ Unit × Unit × Unit))
  | ((_, _, _, _, a, _), (b, c, d, _), e, _) => bif decide (a < 64) then bif decide (0 ≤ a) && decide (a < 64) then bif decide ((Arr.get c.Roster a).Base = 0) then some (Sum.inl (((), (), (), (), IntKind.wrap IntKind.i64 (a + 1), ()), (b, c, d, ()), e, ())) else bif decide (Option.getD (mget e a) 0 = 1) then bif !entersB c d a then some (Sum.inr (Sum.inl ((false, ()), (), ()))) else some (Sum.inl (((), (), (), (), IntKind.wrap IntKind.i64 (a + 1), ()), (b, c, d, ()), e, ())) else bif decide (0 ≤ a) && decide (a < 64) then bif decide (0 ≤ a) && decide (a < 64) then bif !decide (Arr.get c.Roster a = Arr.get b.Roster a) then some (Sum.inr (Sum.inl ((false, ()), (), ()))) else bif !followB b c d a 3 0 (leaf a) (ofT c (leaf a)).fst then some (Sum.inr (Sum.inl ((false, ()), (), ()))) else some (Sum.inl (((), (), (), (), IntKind.wrap IntKind.i64 (a + 1), ()), (b, c, d, ()), e, ())) else none else none else none else some (Sum.inr (Sum.inr ((), (), ())))
/-- coterie/coterielaw12.PlanHeard -/
def g_law12_PlanHeard : Tree × Batch × Unit → Option (Bool × Unit)
  | (a, b, _) => bif !decide ((nextR a b).snd.snd = 0) then bif decide ((nextR a b).fst = Tree.mk 0 0 (Vector.replicate 21 (St.zero St.key)) (Vector.replicate 64 (St.zero St.entry))) then some (decide ((↑(List.length (nextR a b).snd.fst.Items) : Int) = 0), ()) else some (false, ()) else Option.bind (lfp g_law12_PlanHeard_r1 (((), (), (), (), (nextR a b).snd.fst.Joins, (↑(List.length (nextR a b).snd.fst.Joins) : Int), 0, ()), (a, (nextR a b).fst, (nextR a b).snd.fst, ()), [], ())) fun z => Option.bind (lfp g_law12_PlanHeard_r2 (((), (), (), (), 0, ()), (z.snd.fst.fst, z.snd.fst.snd.fst, z.snd.fst.snd.snd.fst, ()), z.snd.snd.fst, ())) fun z => Sum.elim (fun x => some (x.fst.fst, ())) (fun _ => some (true, ())) z
end Go.Co.N
end
end

section
namespace Go.Co.N
open Go Go.Co

theorem openedR_eq (m : Rekey) (v fr : Int) (k : Key) : openedR m v fr k = ((openI m v fr k).1, decide ((openI m v fr k).2 = 0)) := by
  unfold openedR openI
  cases firstB m v fr <;> rfl
section
variable {t : Tree} {b : Batch} (h : (nextT t b).e = 0)
include h
theorem follow_ok {s : Nat} (hs : s < 64) (hon : isOn (nextT t b).t.Roster s = true) : ∀ (d i : Nat), i + d = 3 → followB t (nextT t b).t (msgOf t b) s d i (belowAt s i) (keyN (nextT t b).t (belowAt s i)) = true
  | 0, _, _ => rfl
  | d + 1, i, hi => by
    obtain ⟨v, hv, hv2, _⟩ := path_at hs i (by omega)
    have hp : Arr.get (pathG (s : Int)) (i : Int) = (v : Int) := by rw [pathG_at hs i (by omega), hv]
    have hz : followZ t (msgOf t b) (v : Int) (belowAt s i) (keyN (nextT t b).t (belowAt s i)) = (keyN (nextT t b).t (v : Int), true) := by
      unfold followZ
      have hml : (msgOf t b).Leaves = (nextT t b).left := rfl
      rw [hml]
      cases hin : inB (replaced (nextT t b).left) (v : Int) with
      | true =>
        have := msg_up h hs hon i (by omega) (by rw [hv]; exact hin)
        rw [hv] at this
        rw [cond_true, openedR_eq, this]; rfl
      | false =>
        rw [cond_false, kept_key h hv2 (by rw [hin]; simp), keyN_inner _ hv2]; rfl
    simp only [followB, hp, hz]
    rw [keyN_inner _ hv2, decide_eq_true rfl]
    have ih := follow_ok hs hon d (i + 1) (by omega)
    have hb : belowAt s (i + 1) = (v : Int) := hv
    rw [hb, keyN_inner _ hv2] at ih
    exact ih
theorem enter_ok {s : Nat} (hs : s < 64) (hj : ∃ x ∈ (nextT t b).joined, x.Slot = s) (hon : isOn (nextT t b).t.Roster s = true) : ∀ (d i : Nat), i + d = 3 →
    enterB (nextT t b).t (msgOf t b) s (keyN (nextT t b).t (leaf s)) d i (belowAt s i) (keyN (nextT t b).t (belowAt s i)) = true
  | 0, _, _ => rfl
  | d + 1, i, hi => by
    obtain ⟨v, hv, hv2, _⟩ := path_at hs i (by omega)
    have hp : Arr.get (pathG (s : Int)) (i : Int) = (v : Int) := by rw [pathG_at hs i (by omega), hv]
    have hgl := good_leafK (nx_good h) hs hon
    have hz : enterZ (msgOf t b) s (v : Int) (belowAt s i) (keyN (nextT t b).t (leaf s)) (keyN (nextT t b).t (belowAt s i)) = (keyN (nextT t b).t (v : Int), true) := by
      unfold enterZ
      cases hin : inB (replaced (nextT t b).left) (v : Int) with
      | true =>
        have hup := msg_up h hs hon i (by omega) (by rw [hv]; exact hin)
        rw [hv] at hup
        have hup' : openedR (msgOf t b) v (belowAt s i) (keyN (nextT t b).t (belowAt s i)) = (keyN (nextT t b).t (v : Int), true) := by rw [openedR_eq, hup]; rfl
        by_cases hi0 : i = 0
        · subst hi0
          have : openedR (msgOf t b) v (leaf s) (keyN (nextT t b).t (leaf s)) = (keyN (nextT t b).t (v : Int), true) := hup'
          rw [this]; rfl
        · have hno : firstB (msgOf t b) v (leaf s) = none := find_no fun x hx h1 h2 => by
            rcases items_mem.1 hx with ⟨w, hw, _, j, hj4, _, rfl⟩ | ⟨x', hx', j, hj3, hnin, rfl⟩
            · have e1 : (w : Int) = v := h1
              have e2 : child w j = leaf s := h2
              rw [leaf_in hs] at e2
              unfold child at e2
              rw [if_pos ⟨by omega, by omega, by omega, by omega⟩] at e2
              have : pathAt (s : Int) i ≤ 4 := by
                unfold pathAt
                rw [if_neg hi0]
                split <;> omega
              omega
            · have e1 : Arr.get (pathG x'.Slot) (j : Int) = v := h1
              rw [e1, hin] at hnin; cases hnin
          have : openedR (msgOf t b) v (leaf s) (keyN (nextT t b).t (leaf s)) = (⟨0, 0⟩, false) := by unfold openedR; rw [hno]; rfl
          rw [this]
          exact hup'
      | false =>
        obtain ⟨x, hx, hxs⟩ := hj
        have hmem : itemOf (nextT t b).t v (leaf s) ∈ (msgOf t b).Items := items_mem.2 (.inr ⟨x, hx, i, by omega, by rw [hxs, hp]; exact hin, by rw [hxs, hp]⟩)
        have : openedR (msgOf t b) v (leaf s) (keyN (nextT t b).t (leaf s)) = (keyN (nextT t b).t v, true) := by
          unfold openedR
          rw [msg_find hmem]
          show ((openB _ _).1, decide ((openB _ _).2 = 0)) = _
          rw [open_item (good_inner (nx_good h) hv2) hgl]; rfl
        rw [this]; rfl
    simp only [enterB, hp, hz]
    rw [keyN_inner _ hv2, decide_eq_true rfl]
    have ih := enter_ok hs hj hon d (i + 1) (by omega)
    have hb : belowAt s (i + 1) = (v : Int) := hv
    rw [hb, keyN_inner _ hv2] at ih
    exact ih
end
end Go.Co.N
end

section
namespace Go.Co.N
open Go Go.Co

theorem path_all : allN 64 (fun s => allN 3 fun i => decide (0 ≤ Arr.get (pathG s) (i : Int)) && decide (Arr.get (pathG s) (i : Int) < 21)) = true := by decide +kernel
theorem pathG_lt (s : Int) (i : Nat) (hi : i < 3) : 0 ≤ Arr.get (pathG s) (i : Int) ∧ Arr.get (pathG s) (i : Int) < 21 := by
  by_cases hs : 0 ≤ s ∧ s < 64
  · obtain ⟨k, rfl⟩ := Int.eq_ofNat_of_zero_le hs.1
    have := allN_iff.1 (allN_iff.1 path_all k (by omega)) i hi
    simpa using this
  · have hl : ¬ 0 ≤ leaf s := by unfold leaf; rw [if_neg hs]; omega
    have : pathG s = zero3 := by unfold pathG; rw [decide_eq_false hl]; rfl
    rw [this]
    have hz : ∀ i, i < 3 → Arr.get zero3 (i : Nat) = 0 := by decide
    rw [hz i hi]; omega
theorem follow_lfp (was now : Tree) (m : Rekey) (s : Int) : ∀ (d i : Nat) (b : Int) (k : Key), i + d = 3 →
    lfp g_law12_follows_r1 (((), (), (), (), replaced m.Leaves, b, (), (i : Int), ()), (was, now, m, pathG s, k, ()), ()) = some (bif followB was now m s d i b k then .inr ((), (), ()) else .inl ((false, ()), (), ()))
  | 0, i, b, k, hi => by
    have : i = 3 := by omega
    subst this
    exact lfp_inr (by simp [g_law12_follows_r1, followB])
  | d + 1, i, b, k, hi => by
    obtain ⟨p0, p1⟩ := pathG_lt s i (by omega)
    have g1 : (i : Int) < 3 := by omega
    have hf : g_law12_follows_r1 (((), (), (), (), replaced m.Leaves, b, (), (i : Int), ()), (was, now, m, pathG s, k, ()), ()) =
        some (bif (followZ was m (Arr.get (pathG s) (i : Int)) b k).2 && decide ((followZ was m (Arr.get (pathG s) (i : Int)) b k).1 = Arr.get now.Keys (Arr.get (pathG s) (i : Int))) then
          .inl (((), (), (), (), replaced m.Leaves, Arr.get (pathG s) (i : Int), (), ((i + 1 : Nat) : Int), ()), (was, now, m, pathG s, (followZ was m (Arr.get (pathG s) (i : Int)) b k).1, ()), ()) else .inr (.inl ((false, ()), (), ()))) := by
      simp only [g_law12_follows_r1, g1, p0, p1, decide_true, cond_true, Int.natCast_nonneg, Bool.and_self, wrap1 i (by omega), followZ]
      rcases Bool.eq_false_or_eq_true (inB (replaced m.Leaves) (Arr.get (pathG s) (i : Int))) with hin | hin
      · simp only [hin, cond_true]
        rcases Bool.eq_false_or_eq_true (openedR m (Arr.get (pathG s) (i : Int)) b k).2 with ho | ho
        · simp only [ho, Bool.not_true, cond_false, Bool.true_and]
          by_cases he : (openedR m (Arr.get (pathG s) (i : Int)) b k).1 = Arr.get now.Keys (Arr.get (pathG s) (i : Int)) <;> simp [he]
        · simp [ho]
      · simp only [hin, cond_false]
        by_cases ho : (ahead (Arr.get was.Keys (Arr.get (pathG s) (i : Int))) 1).2 = 0
        · simp only [ho, decide_true, Bool.not_true, cond_false, Bool.true_and]
          by_cases he : (ahead (Arr.get was.Keys (Arr.get (pathG s) (i : Int))) 1).1 = Arr.get now.Keys (Arr.get (pathG s) (i : Int)) <;> simp [he]
        · simp [ho]
    simp only [followB]
    cases hc : ((followZ was m (Arr.get (pathG s) (i : Int)) b k).2 && decide ((followZ was m (Arr.get (pathG s) (i : Int)) b k).1 = Arr.get now.Keys (Arr.get (pathG s) (i : Int)))) with
    | false => rw [hc] at hf; exact lfp_inr hf
    | true =>
      rw [hc] at hf
      rw [lfp_inl hf]
      exact follow_lfp was now m s d (i + 1) _ _ (by omega)
theorem eq_law12_follows : Eqs c_law12_follows g_law12_follows := Eqs.tot fun (was, now, m, s, _) _ => by
  change Tree at was now
  change Rekey at m
  change Int at s
  show g_law12_follows (was, now, m, s, ()) = some (followB was now m s 3 0 (leaf s) (ofT now (leaf s)).1, ())
  simp only [g_law12_follows]
  rw [show (bif decide (0 ≤ leaf s) then pathN s else zero3) = pathG s from rfl]
  rw [show lfp g_law12_follows_r1 (((), (), (), (), replaced m.Leaves, leaf s, (), 0, ()), (was, now, m, pathG s, (ofT now (leaf s)).1, ()), ()) = _ from follow_lfp was now m s 3 0 (leaf s) (ofT now (leaf s)).1 rfl]
  cases followB was now m s 3 0 (leaf s) (ofT now (leaf s)).1 <;> rfl
theorem enter_lfp (now : Tree) (m : Rekey) (s : Int) (l : Key) : ∀ (d i : Nat) (b : Int) (k : Key), i + d = 3 →
    lfp g_law12_enters_r1 ((s, (), (), (), (), b, (), (i : Int), ()), (now, m, l, pathG s, k, ()), ()) = some (bif enterB now m s l d i b k then .inr ((), (), ()) else .inl ((false, ()), (), ()))
  | 0, i, b, k, hi => by
    have : i = 3 := by omega
    subst this
    exact lfp_inr (by simp [g_law12_enters_r1, enterB])
  | d + 1, i, b, k, hi => by
    obtain ⟨p0, p1⟩ := pathG_lt s i (by omega)
    have g1 : (i : Int) < 3 := by omega
    have hf : g_law12_enters_r1 ((s, (), (), (), (), b, (), (i : Int), ()), (now, m, l, pathG s, k, ()), ()) =
        some (bif (enterZ m s (Arr.get (pathG s) (i : Int)) b l k).2 && decide ((enterZ m s (Arr.get (pathG s) (i : Int)) b l k).1 = Arr.get now.Keys (Arr.get (pathG s) (i : Int))) then
          .inl ((s, (), (), (), (), Arr.get (pathG s) (i : Int), (), ((i + 1 : Nat) : Int), ()), (now, m, l, pathG s, (enterZ m s (Arr.get (pathG s) (i : Int)) b l k).1, ()), ()) else .inr (.inl ((false, ()), (), ()))) := by
      simp only [g_law12_enters_r1, g1, p0, p1, decide_true, cond_true, Int.natCast_nonneg, Bool.and_self, wrap1 i (by omega), enterZ]
      rcases Bool.eq_false_or_eq_true (openedR m (Arr.get (pathG s) (i : Int)) (leaf s) l).2 with hin | hin
      · simp only [hin, cond_true, cond_false, Bool.not_true, Bool.true_and]
        by_cases he : (openedR m (Arr.get (pathG s) (i : Int)) (leaf s) l).1 = Arr.get now.Keys (Arr.get (pathG s) (i : Int)) <;> simp [he]
      · simp only [hin, cond_false, cond_true, Bool.not_false]
        rcases Bool.eq_false_or_eq_true (openedR m (Arr.get (pathG s) (i : Int)) b k).2 with ho | ho
        · simp only [ho, Bool.not_true, cond_false, Bool.true_and]
          by_cases he : (openedR m (Arr.get (pathG s) (i : Int)) b k).1 = Arr.get now.Keys (Arr.get (pathG s) (i : Int)) <;> simp [he]
        · simp [ho]
    simp only [enterB]
    cases hc : ((enterZ m s (Arr.get (pathG s) (i : Int)) b l k).2 && decide ((enterZ m s (Arr.get (pathG s) (i : Int)) b l k).1 = Arr.get now.Keys (Arr.get (pathG s) (i : Int)))) with
    | false => rw [hc] at hf; exact lfp_inr hf
    | true =>
      rw [hc] at hf
      rw [lfp_inl hf]
      exact enter_lfp now m s l d (i + 1) _ _ (by omega)
theorem eq_law12_enters : Eqs c_law12_enters g_law12_enters := Eqs.tot fun (now, m, s, _) _ => by
  change Tree at now
  change Rekey at m
  change Int at s
  show g_law12_enters (now, m, s, ()) = some (entersB now m s, ())
  simp only [g_law12_enters, entersB]
  rw [show (bif decide (0 ≤ leaf s) then pathN s else zero3) = pathG s from rfl]
  cases decide ((ofT now (leaf s)).2 = 0) with
  | false => rfl
  | true =>
    simp only [Bool.not_true, cond_false, cond_true]
    rw [show lfp g_law12_enters_r1 ((s, (), (), (), (), leaf s, (), 0, ()), (now, m, (ofT now (leaf s)).1, pathG s, (ofT now (leaf s)).1, ()), ()) = _ from enter_lfp now m s _ 3 0 (leaf s) (ofT now (leaf s)).1 rfl]
    cases enterB now m s (ofT now (leaf s)).1 3 0 (leaf s) (ofT now (leaf s)).1 <;> rfl
end Go.Co.N
end

section
namespace Go.Co.N
open Go Go.Co

def slotM : List Co.Seat → List (Int × Int) → List (Int × Int)
  | [], h => h
  | x :: l, h => slotM l (mput h x.Slot 1)
theorem slotM_get : ∀ (l : List Co.Seat) (h : List (Int × Int)) (s : Int), mget (slotM l h) s = if (∃ x ∈ l, x.Slot = s) then some 1 else mget h s
  | [], h, s => by simp [slotM]
  | x :: l, h, s => by
    simp only [slotM]
    rw [slotM_get l, mget_mput]
    by_cases h1 : ∃ y ∈ l, y.Slot = s
    · have : ∃ y ∈ x :: l, y.Slot = s := let ⟨y, hy, he⟩ := h1; ⟨y, List.mem_cons_of_mem _ hy, he⟩
      rw [if_pos h1, if_pos this]
    · by_cases h2 : x.Slot = s
      · rw [if_neg h1, if_pos h2, if_pos ⟨x, List.mem_cons_self .., h2⟩]
      · have : ¬ ∃ y ∈ x :: l, y.Slot = s := by
          rintro ⟨y, hy, he⟩
          rcases List.mem_cons.1 hy with rfl | hy
          · exact h2 he
          · exact h1 ⟨y, hy, he⟩
        rw [if_neg h1, if_neg h2, if_neg this]
theorem slot_fold {Z : Type} (fin : List (Int × Int) → Z) : ∀ (l : List Co.Seat) (h : List (Int × Int)), foldE (fun (a : List (Int × Int)) (x : Co.Seat) => (Sum.inl (mput a x.Slot 1) : List (Int × Int) ⊕ Z)) fin l h = fin (slotM l h)
  | [], _ => rfl
  | x :: l, h => by simp only [foldE, slotM]; exact slot_fold fin l _
theorem eq_law12_PlanHeard : Eqs c_law12_PlanHeard g_law12_PlanHeard := Eqs.tot fun (t, b, _) _ => by
  change Tree at t
  change Batch at b
  show g_law12_PlanHeard (t, b, ()) = some (true, ())
  simp only [g_law12_PlanHeard]
  by_cases h : (nextT t b).e = 0
  case neg =>
    have hr : nextR t b = (zeroT, St.zero .rekey, (nextT t b).e) := by unfold nextR; rw [decide_eq_false h]; rfl
    rw [hr]
    simp only [h, decide_false, Bool.not_false, cond_true]
    have : decide (zeroT = Tree.mk 0 0 (Vector.replicate 21 (St.zero St.key)) (Vector.replicate 64 (St.zero St.entry))) = true := decide_eq_true rfl
    rw [this]; rfl
  rw [nextR_is h]
  simp only [decide_true, Bool.not_true, cond_false]
  obtain ⟨hj, hl, hj2, hl2⟩ := nextT_joined h
  have hmj : (msgOf t b).Joins = (nextT t b).joined := rfl
  rw [hmj]
  have l1 := lfp_list (f := g_law12_PlanHeard_r1) (nextT t b).joined (fun i (a : List (Int × Int)) => (((), (), (), (), (nextT t b).joined, ((nextT t b).joined.length : Int), (i : Int), ()), (t, (nextT t b).t, msgOf t b, ()), a, ()))
    (fun a x => Sum.inl (mput a x.Slot 1)) (fun _ _ _ => True) (fun a => (((), (), (), (), ()), (t, (nextT t b).t, msgOf t b, ()), a, ()))
    (fun i x rest a _ hi hx _ => by
      refine ⟨fun _ _ => trivial, ?_⟩
      have g1 : (i : Int) < ((nextT t b).joined.length : Int) := by omega
      simp only [g_law12_PlanHeard_r1, g1, hx, decide_true, cond_true, Int.natCast_nonneg, Bool.and_self, wrap1' hi (by omega)])
    (fun a _ => by simp [g_law12_PlanHeard_r1]) (nextT t b).joined 0 [] rfl (by omega) trivial
  rw [slot_fold] at l1
  rw [show lfp g_law12_PlanHeard_r1 (((), (), (), (), (nextT t b).joined, ((nextT t b).joined.length : Int), 0, ()), (t, (nextT t b).t, msgOf t b, ()), [], ()) = _ from l1]
  simp only [Option.bind_some]
  have hget := slotM_get (nextT t b).joined []
  generalize slotM (nextT t b).joined [] = M at hget ⊢
  rw [lfp_run' (fun s => (((), (), (), (), (s : Int), ()), (t, (nextT t b).t, msgOf t b, ()), M, ())) 64 (by rfl) fun s hs => by
    have g1 : (s : Int) < 64 := by omega
    have e1 : Arr.get (nextT t b).t.Roster (s : Int) = ent (nextT t b).t.Roster s := rfl
    have e2 : Arr.get t.Roster (s : Int) = ent t.Roster s := rfl
    simp only [g_law12_PlanHeard_r2, g1, e1, e2, decide_true, cond_true, Int.natCast_nonneg, Bool.and_self, wrap1 s (by omega)]
    by_cases hb : (ent (nextT t b).t.Roster s).Base = 0
    · rw [decide_eq_true hb]; rfl
    have hon : isOn (nextT t b).t.Roster s = true := isOn_iff.2 hb
    rw [decide_eq_false hb]
    simp only [cond_false]
    rw [hget]
    by_cases hjn : ∃ x ∈ (nextT t b).joined, x.Slot = (s : Int)
    · rw [if_pos hjn]
      have hent : entersB (nextT t b).t (msgOf t b) s = true := by
        have h0 : (ofT (nextT t b).t (leaf s)).2 = 0 := by
          rw [leaf_in hs, show (21 + (s : Int)) = ((21 + s : Nat) : Int) by omega, ofT_leaf _ hs, leafAt_on (nx_good h) hs hon]
        unfold entersB
        rw [decide_eq_true h0]
        exact enter_ok h hs hjn hon 3 0 rfl
      simp only [Option.getD_some, hent]
      rfl
    · rw [if_neg hjn]
      have hst : ent (nextT t b).t.Roster s = ent t.Roster s := by
        rcases nx_seat h s hs with hx | ⟨_, ⟨_, _, hz⟩ | ⟨_, hz⟩⟩
        · exact absurd hx hjn
        · rw [hz] at hb; exact absurd rfl hb
        · exact hz
      have hfo : followB t (nextT t b).t (msgOf t b) s 3 0 (leaf s) (ofT (nextT t b).t (leaf s)).1 = true := follow_ok h hs hon 3 0 rfl
      have h10 : ¬ (Option.getD (mget ([] : List (Int × Int)) (s : Int)) 0) = 1 := by simp [mget]
      simp only [hst, h10, hfo, decide_true, decide_false, Bool.not_true, cond_false]]
  rw [lfp_inr (z := .inr ((), (), ())) (by simp [g_law12_PlanHeard_r2])]
  rfl
end Go.Co.N
end

section
namespace Go.Proofs.YtplmbkgjaobhgaaDoor
open Go Go.Co Go.Co.N Go.Proofs
noncomputable def L_law12_follows : List (Nat × LD) := [(6, ⟨⟨[(4, .ptr 0 []), (5, .ptr 1 []), (6, .ptr 2 []), (11, .ptr 4 []), (13, .hole (.int .u32)), (14, .hole .i), (15, .ptr 5 []), (16, .hole .i)], [(0, (.st .tree), .hole (.st .tree)), (1, (.st .tree), .hole (.st .tree)), (2, (.st .rekey), .hole (.st .rekey)), (4, (.arr 3 .i), .hole (.arr 3 .i)), (5, (.st .key), .hole (.st .key))], []⟩, [(.ret, ⟨[(8, .hole .bool)], [], []⟩), (.exit 0, ⟨[], [], []⟩)], 12⟩)]
noncomputable def Ls_law12_follows : List (Nat × List (Nat × LD)) := []
noncomputable def B_law12_follows : Bodies := []
theorem run_law12_follows (x : denL [(.st .tree), (.st .tree), (.st .rekey), .i]) : run [(20, c_ref01_Leaf), (19, c_ref11_Of), (21, c_ref01_Path), (37, c_ref11_Replaced), (41, c_ref02_Ahead), (24, c_ref01_In), (40, c_law12_opened)] L_law12_follows Ls_law12_follows B_law12_follows Tryd.f18 [(.st .tree), (.st .tree), (.st .rekey), .i] [.bool] x = g_law12_follows x := by kernel_rfl
theorem ok_law12_follows : ConOK Tryd.prog 18 c_law12_follows := con_ok (ConsOK.cons ok_ref01_Leaf (ConsOK.cons ok_ref11_Of (ConsOK.cons ok_ref01_Path (ConsOK.cons ok_ref11_Replaced (ConsOK.cons ok_ref02_Ahead (ConsOK.cons ok_ref01_In (ConsOK.cons ok_law12_opened (ConsOK.nil)))))))) L_law12_follows Ls_law12_follows (B := B_law12_follows) (BodiesOK.nil) Tryd.func18 rfl fun x y hf h => (run_law12_follows x).trans (eq_law12_follows x y hf h)
noncomputable def L_law12_enters : List (Nat × LD) := [(7, ⟨⟨[(2, .hole .i), (3, .ptr 0 []), (4, .ptr 1 []), (7, .ptr 2 []), (9, .ptr 3 []), (11, .hole .i), (12, .ptr 4 []), (13, .hole .i)], [(0, (.st .tree), .hole (.st .tree)), (1, (.st .rekey), .hole (.st .rekey)), (2, (.st .key), .hole (.st .key)), (3, (.arr 3 .i), .hole (.arr 3 .i)), (4, (.st .key), .hole (.st .key))], []⟩, [(.ret, ⟨[(6, .hole .bool)], [], []⟩), (.exit 0, ⟨[], [], []⟩)], 11⟩)]
noncomputable def Ls_law12_enters : List (Nat × List (Nat × LD)) := []
noncomputable def B_law12_enters : Bodies := []
theorem run_law12_enters (x : denL [(.st .tree), (.st .rekey), .i]) : run [(20, c_ref01_Leaf), (19, c_ref11_Of), (21, c_ref01_Path), (40, c_law12_opened)] L_law12_enters Ls_law12_enters B_law12_enters Tryd.f17 [(.st .tree), (.st .rekey), .i] [.bool] x = g_law12_enters x := by kernel_rfl
theorem ok_law12_enters : ConOK Tryd.prog 17 c_law12_enters := con_ok (ConsOK.cons ok_ref01_Leaf (ConsOK.cons ok_ref11_Of (ConsOK.cons ok_ref01_Path (ConsOK.cons ok_law12_opened (ConsOK.nil))))) L_law12_enters Ls_law12_enters (B := B_law12_enters) (BodiesOK.nil) Tryd.func17 rfl fun x y hf h => (run_law12_enters x).trans (eq_law12_enters x y hf h)
noncomputable def L_law12_PlanHeard : List (Nat × LD) := [(8, ⟨⟨[(2, .ptr 0 []), (5, .ptr 2 []), (6, .ptr 3 []), (8, .mp 4), (34, .hole (.list (.st .seat))), (35, .hole .i), (36, .hole .i)], [(0, (.st .tree), .hole (.st .tree)), (2, (.st .tree), .hole (.st .tree)), (3, (.st .rekey), .hole (.st .rekey))], [(4, .i, .i)]⟩, [(.exit 0, ⟨[(2, .ptr 0 []), (5, .ptr 2 []), (6, .ptr 3 []), (8, .mp 4)], [(0, (.st .tree), .hole (.st .tree)), (2, (.st .tree), .hole (.st .tree)), (3, (.st .rekey), .hole (.st .rekey))], [(4, .i, .i)]⟩)], 11⟩), (13, ⟨⟨[(2, .ptr 0 []), (5, .ptr 2 []), (6, .ptr 3 []), (8, .mp 4), (11, .hole .i)], [(0, (.st .tree), .hole (.st .tree)), (2, (.st .tree), .hole (.st .tree)), (3, (.st .rekey), .hole (.st .rekey))], [(4, .i, .i)]⟩, [(.ret, ⟨[(4, .hole .bool)], [], []⟩), (.exit 2, ⟨[], [], []⟩)], 10⟩)]
noncomputable def Ls_law12_PlanHeard : List (Nat × List (Nat × LD)) := []
noncomputable def B_law12_PlanHeard : Bodies := []
theorem run_law12_PlanHeard (x : denL [(.st .tree), (.st .batch)]) : run [(12, c_law12_lives), (16, c_plan_Next), (17, c_law12_enters), (18, c_law12_follows)] L_law12_PlanHeard Ls_law12_PlanHeard B_law12_PlanHeard Tryd.f5 [(.st .tree), (.st .batch)] [.bool] x = g_law12_PlanHeard x := by kernel_rfl
theorem ok_law12_PlanHeard : ConOK Tryd.prog 5 c_law12_PlanHeard := con_ok (ConsOK.cons ok_law12_lives (ConsOK.cons ok_plan_Next (ConsOK.cons ok_law12_enters (ConsOK.cons ok_law12_follows (ConsOK.nil))))) L_law12_PlanHeard Ls_law12_PlanHeard (B := B_law12_PlanHeard) (BodiesOK.nil) Tryd.func5 rfl fun x y hf h => (run_law12_PlanHeard x).trans (eq_law12_PlanHeard x y hf h)
end Go.Proofs.YtplmbkgjaobhgaaDoor
end
