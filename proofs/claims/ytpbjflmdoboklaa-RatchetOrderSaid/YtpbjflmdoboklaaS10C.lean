/-
  The program computes so: printed by a program of my own (wip/tool).
  For the claims about coterie.
-/
import Derived.Test.YtpbjflmdoboklaaS10A
import Derived.Test.YtpbjflmdoboklaaN10L
namespace Go.Proofs.Ytpbjflmdoboklaa
open Go Go.Co Go.Co.N Go.Proofs
noncomputable def L_key_Good : List (Nat × LD) := []
noncomputable def Ls_key_Good : List (Nat × List (Nat × LD)) := []
noncomputable def B_key_Good : Bodies := []
theorem run_key_Good (x : denL [(.st .key)]) : run [] L_key_Good Ls_key_Good B_key_Good Try.f20 [(.st .key)] [.bool] x = g_key_Good x := by kernel_rfl
theorem ok_key_Good : ConOK Try.prog 20 c_key_Good := con_ok (ConsOK.nil) L_key_Good Ls_key_Good (B := B_key_Good) (BodiesOK.nil) Try.func20 rfl fun x y hf h => (run_key_Good x).trans (eq_key_Good x y hf h)
noncomputable def L_ref02_Good : List (Nat × LD) := []
noncomputable def Ls_ref02_Good : List (Nat × List (Nat × LD)) := []
noncomputable def B_ref02_Good : Bodies := []
theorem run_ref02_Good (x : denL [(.st .key)]) : run [] L_ref02_Good Ls_ref02_Good B_ref02_Good Try.f21 [(.st .key)] [.bool] x = g_ref02_Good x := by kernel_rfl
theorem ok_ref02_Good : ConOK Try.prog 21 c_ref02_Good := con_ok (ConsOK.nil) L_ref02_Good Ls_ref02_Good (B := B_ref02_Good) (BodiesOK.nil) Try.func21 rfl fun x y hf h => (run_ref02_Good x).trans (eq_ref02_Good x y hf h)
noncomputable def L_key_Ahead : List (Nat × LD) := []
noncomputable def Ls_key_Ahead : List (Nat × List (Nat × LD)) := []
noncomputable def B_key_Ahead : Bodies := []
theorem run_key_Ahead (x : denL [(.st .key), .i]) : run [(20, c_key_Good)] L_key_Ahead Ls_key_Ahead B_key_Ahead Try.f24 [(.st .key), .i] [(.st .key), .i] x = g_key_Ahead x := by kernel_rfl
theorem ok_key_Ahead : ConOK Try.prog 24 c_key_Ahead := con_ok (ConsOK.cons ok_key_Good (ConsOK.nil)) L_key_Ahead Ls_key_Ahead (B := B_key_Ahead) (BodiesOK.nil) Try.func24 rfl fun x y hf h => (run_key_Ahead x).trans (eq_key_Ahead x y hf h)
noncomputable def L_ref02_Ahead : List (Nat × LD) := [(6, ⟨⟨[(1, .hole .i), (2, .ptr 0 []), (4, .ptr 1 []), (6, .hole .i)], [(0, (.st .key), .hole (.st .key)), (1, (.st .key), .hole (.st .key))], []⟩, [(.exit 0, ⟨[(2, .ptr 0 []), (4, .ptr 1 [])], [(0, (.st .key), .hole (.st .key)), (1, (.st .key), .hole (.st .key))], []⟩)], 10⟩)]
noncomputable def Ls_ref02_Ahead : List (Nat × List (Nat × LD)) := []
noncomputable def B_ref02_Ahead : Bodies := []
theorem run_ref02_Ahead (x : denL [(.st .key), .i]) : run [(21, c_ref02_Good)] L_ref02_Ahead Ls_ref02_Ahead B_ref02_Ahead Try.f27 [(.st .key), .i] [(.st .key), .i] x = g_ref02_Ahead x := by kernel_rfl
theorem ok_ref02_Ahead : ConOK Try.prog 27 c_ref02_Ahead := con_ok (ConsOK.cons ok_ref02_Good (ConsOK.nil)) L_ref02_Ahead Ls_ref02_Ahead (B := B_ref02_Ahead) (BodiesOK.nil) Try.func27 rfl fun x y hf h => (run_ref02_Ahead x).trans (eq_ref02_Ahead x y hf h)
noncomputable def L_ref02_Gives : List (Nat × LD) := []
noncomputable def Ls_ref02_Gives : List (Nat × List (Nat × LD)) := []
noncomputable def B_ref02_Gives : Bodies := []
theorem run_ref02_Gives (x : denL [(.st .key), (.st .key)]) : run [(21, c_ref02_Good)] L_ref02_Gives Ls_ref02_Gives B_ref02_Gives Try.f14 [(.st .key), (.st .key)] [.bool] x = g_ref02_Gives x := by kernel_rfl
theorem ok_ref02_Gives : ConOK Try.prog 14 c_ref02_Gives := con_ok (ConsOK.cons ok_ref02_Good (ConsOK.nil)) L_ref02_Gives Ls_ref02_Gives (B := B_ref02_Gives) (BodiesOK.nil) Try.func14 rfl fun x y hf h => (run_ref02_Gives x).trans (eq_ref02_Gives x y hf h)
noncomputable def L_ref01_In : List (Nat × LD) := [(4, ⟨⟨[(0, .hole (.int .u32)), (1, .hole .i), (5, .hole .i)], [], []⟩, [(.exit 0, ⟨[(0, .hole (.int .u32))], [], []⟩)], 10⟩)]
noncomputable def Ls_ref01_In : List (Nat × List (Nat × LD)) := []
noncomputable def B_ref01_In : Bodies := []
theorem run_ref01_In (x : denL [(.int .u32), .i]) : run [] L_ref01_In Ls_ref01_In B_ref01_In Try.f25 [(.int .u32), .i] [.bool] x = g_ref01_In x := by kernel_rfl
theorem ok_ref01_In : ConOK Try.prog 25 c_ref01_In := con_ok (ConsOK.nil) L_ref01_In Ls_ref01_In (B := B_ref01_In) (BodiesOK.nil) Try.func25 rfl fun x y hf h => (run_ref01_In x).trans (eq_ref01_In x y hf h)
noncomputable def L_ref10_count : List (Nat × LD) := [(3, ⟨⟨[(0, .hole (.int .u32)), (3, .hole .i), (4, .hole .i)], [], []⟩, [(.exit 0, ⟨[(3, .hole .i)], [], []⟩)], 10⟩)]
noncomputable def Ls_ref10_count : List (Nat × List (Nat × LD)) := []
noncomputable def B_ref10_count : Bodies := []
theorem run_ref10_count (x : denL [(.int .u32)]) : run [(25, c_ref01_In)] L_ref10_count Ls_ref10_count B_ref10_count Try.f26 [(.int .u32)] [.i] x = g_ref10_count x := by kernel_rfl
theorem ok_ref10_count : ConOK Try.prog 26 c_ref10_count := con_ok (ConsOK.cons ok_ref01_In (ConsOK.nil)) L_ref10_count Ls_ref10_count (B := B_ref10_count) (BodiesOK.nil) Try.func26 rfl fun x y hf h => (run_ref10_count x).trans (eq_ref10_count x y hf h)
noncomputable def L_bits_OnesCount32 : List (Nat × LD) := []
noncomputable def Ls_bits_OnesCount32 : List (Nat × List (Nat × LD)) := []
noncomputable def B_bits_OnesCount32 : Bodies := []
theorem run_bits_OnesCount32 (x : denL [(.int .u32)]) : run [] L_bits_OnesCount32 Ls_bits_OnesCount32 B_bits_OnesCount32 Try.f23 [(.int .u32)] [.i] x = g_bits_OnesCount32 x := by kernel_rfl
theorem ok_bits_OnesCount32 : ConOK Try.prog 23 c_bits_OnesCount32 := con_ok (ConsOK.nil) L_bits_OnesCount32 Ls_bits_OnesCount32 (B := B_bits_OnesCount32) (BodiesOK.nil) Try.func23 rfl fun x y hf h => (run_bits_OnesCount32 x).trans (eq_bits_OnesCount32 x y hf h)
noncomputable def L_ratchet_Check : List (Nat × LD) := [(3, ⟨⟨[(3, .mp 1), (7, .hole (.arr 21 (.st .key))), (8, .hole .i)], [], [(1, .i, .i)]⟩, [(.ret, ⟨[(2, .hole .i)], [], []⟩), (.exit 0, ⟨[], [], []⟩)], 11⟩)]
noncomputable def Ls_ratchet_Check : List (Nat × List (Nat × LD)) := []
noncomputable def B_ratchet_Check : Bodies := []
theorem run_ratchet_Check (x : denL [(.arr 21 (.st .key))]) : run [(20, c_key_Good)] L_ratchet_Check Ls_ratchet_Check B_ratchet_Check Try.f10 [(.arr 21 (.st .key))] [.i] x = g_ratchet_Check x := by kernel_rfl
theorem ok_ratchet_Check : ConOK Try.prog 10 c_ratchet_Check := con_ok (ConsOK.cons ok_key_Good (ConsOK.nil)) L_ratchet_Check Ls_ratchet_Check (B := B_ratchet_Check) (BodiesOK.nil) Try.func10 rfl fun x y hf h => (run_ratchet_Check x).trans (eq_ratchet_Check x y hf h)
noncomputable def L_ref10_Check : List (Nat × LD) := [(7, ⟨⟨[(1, .ptr 0 []), (3, .hole .i), (4, .hole .i)], [(0, (.arr 21 (.st .key)), .hole (.arr 21 (.st .key)))], []⟩, [(.ret, ⟨[(2, .hole .i)], [], []⟩), (.exit 2, ⟨[(1, .ptr 0 []), (3, .hole .i)], [(0, (.arr 21 (.st .key)), .hole (.arr 21 (.st .key)))], []⟩)], 10⟩), (2, ⟨⟨[(1, .ptr 0 []), (3, .hole .i)], [(0, (.arr 21 (.st .key)), .hole (.arr 21 (.st .key)))], []⟩, [(.ret, ⟨[(2, .hole .i)], [], []⟩), (.exit 0, ⟨[], [], []⟩)], 20⟩)]
noncomputable def Ls_ref10_Check : List (Nat × List (Nat × LD)) := []
noncomputable def B_ref10_Check : Bodies := []
theorem run_ref10_Check (x : denL [(.arr 21 (.st .key))]) : run [(21, c_ref02_Good)] L_ref10_Check Ls_ref10_Check B_ref10_Check Try.f11 [(.arr 21 (.st .key))] [.i] x = g_ref10_Check x := by kernel_rfl
theorem ok_ref10_Check : ConOK Try.prog 11 c_ref10_Check := con_ok (ConsOK.cons ok_ref02_Good (ConsOK.nil)) L_ref10_Check Ls_ref10_Check (B := B_ref10_Check) (BodiesOK.nil) Try.func11 rfl fun x y hf h => (run_ref10_Check x).trans (eq_ref10_Check x y hf h)
noncomputable def L_ratchet_free : List (Nat × LD) := [(6, ⟨⟨[(1, .hole .i), (2, .hole .i), (19, .hole (.arr 21 (.st .key))), (20, .hole .i)], [], []⟩, [(.ret, ⟨[(6, .hole .bool)], [], []⟩), (.exit 0, ⟨[], [], []⟩)], 11⟩)]
noncomputable def Ls_ratchet_free : List (Nat × List (Nat × LD)) := []
noncomputable def B_ratchet_free : Bodies := []
theorem run_ratchet_free (x : denL [(.arr 21 (.st .key)), .i, .i]) : run [] L_ratchet_free Ls_ratchet_free B_ratchet_free Try.f22 [(.arr 21 (.st .key)), .i, .i] [.bool] x = g_ratchet_free x := by kernel_rfl
theorem ok_ratchet_free : ConOK Try.prog 22 c_ratchet_free := con_ok (ConsOK.nil) L_ratchet_free Ls_ratchet_free (B := B_ratchet_free) (BodiesOK.nil) Try.func22 rfl fun x y hf h => (run_ratchet_free x).trans (eq_ratchet_free x y hf h)
noncomputable def L_ratchet_Turn : List (Nat × LD) := [(8, ⟨⟨[(1, .hole (.int .u32)), (2, .hole .i), (3, .ptr 0 []), (6, .ptr 1 []), (31, .hole .i)], [(0, (.arr 21 (.st .key)), .hole (.arr 21 (.st .key))), (1, (.arr 21 (.st .key)), .hole (.arr 21 (.st .key)))], []⟩, [(.ret, ⟨[(6, .ptr 1 []), (7, .hole .i), (8, .hole .i)], [(1, (.arr 21 (.st .key)), .hole (.arr 21 (.st .key)))], []⟩), (.exit 1, ⟨[(2, .hole .i), (3, .ptr 0 []), (6, .ptr 1 [])], [(0, (.arr 21 (.st .key)), .hole (.arr 21 (.st .key))), (1, (.arr 21 (.st .key)), .hole (.arr 21 (.st .key)))], []⟩)], 11⟩)]
noncomputable def Ls_ratchet_Turn : List (Nat × List (Nat × LD)) := []
noncomputable def B_ratchet_Turn : Bodies := []
theorem run_ratchet_Turn (x : denL [(.arr 21 (.st .key)), (.int .u32), .i]) : run [(10, c_ratchet_Check), (23, c_bits_OnesCount32), (22, c_ratchet_free), (24, c_key_Ahead)] L_ratchet_Turn Ls_ratchet_Turn B_ratchet_Turn Try.f12 [(.arr 21 (.st .key)), (.int .u32), .i] [(.arr 21 (.st .key)), .i, .i] x = g_ratchet_Turn x := by kernel_rfl
theorem ok_ratchet_Turn : ConOK Try.prog 12 c_ratchet_Turn := con_ok (ConsOK.cons ok_ratchet_Check (ConsOK.cons ok_bits_OnesCount32 (ConsOK.cons ok_ratchet_free (ConsOK.cons ok_key_Ahead (ConsOK.nil))))) L_ratchet_Turn Ls_ratchet_Turn (B := B_ratchet_Turn) (BodiesOK.nil) Try.func12 rfl fun x y hf h => (run_ratchet_Turn x).trans (eq_ratchet_Turn x y hf h)
noncomputable def L_ref10_Turn : List (Nat × LD) := [(4, ⟨⟨[(1, .hole (.int .u32)), (2, .hole .i), (3, .ptr 0 []), (6, .ptr 1 []), (9, .hole .i)], [(0, (.arr 21 (.st .key)), .hole (.arr 21 (.st .key))), (1, (.arr 21 (.st .key)), .hole (.arr 21 (.st .key)))], []⟩, [(.ret, ⟨[(6, .ptr 1 []), (7, .hole .i), (8, .hole .i)], [(1, (.arr 21 (.st .key)), .hole (.arr 21 (.st .key)))], []⟩), (.exit 0, ⟨[(1, .hole (.int .u32)), (2, .hole .i), (3, .ptr 0 []), (6, .ptr 1 [])], [(0, (.arr 21 (.st .key)), .hole (.arr 21 (.st .key))), (1, (.arr 21 (.st .key)), .hole (.arr 21 (.st .key)))], []⟩)], 10⟩), (12, ⟨⟨[(1, .hole (.int .u32)), (2, .hole .i), (3, .ptr 0 []), (6, .ptr 1 []), (10, .hole .i), (11, .hole .i)], [(0, (.arr 21 (.st .key)), .hole (.arr 21 (.st .key))), (1, (.arr 21 (.st .key)), .hole (.arr 21 (.st .key)))], []⟩, [(.ret, ⟨[(6, .ptr 1 []), (7, .hole .i), (8, .hole .i)], [(1, (.arr 21 (.st .key)), .hole (.arr 21 (.st .key)))], []⟩), (.exit 2, ⟨[(1, .hole (.int .u32)), (2, .hole .i), (3, .ptr 0 []), (6, .ptr 1 [])], [(0, (.arr 21 (.st .key)), .hole (.arr 21 (.st .key))), (1, (.arr 21 (.st .key)), .hole (.arr 21 (.st .key)))], []⟩)], 10⟩), (17, ⟨⟨[(1, .hole (.int .u32)), (2, .hole .i), (3, .ptr 0 []), (6, .ptr 1 []), (12, .hole .i)], [(0, (.arr 21 (.st .key)), .hole (.arr 21 (.st .key))), (1, (.arr 21 (.st .key)), .hole (.arr 21 (.st .key)))], []⟩, [(.ret, ⟨[(6, .ptr 1 []), (7, .hole .i), (8, .hole .i)], [(1, (.arr 21 (.st .key)), .hole (.arr 21 (.st .key)))], []⟩), (.exit 4, ⟨[(2, .hole .i), (3, .ptr 0 []), (6, .ptr 1 [])], [(0, (.arr 21 (.st .key)), .hole (.arr 21 (.st .key))), (1, (.arr 21 (.st .key)), .hole (.arr 21 (.st .key)))], []⟩)], 11⟩)]
noncomputable def Ls_ref10_Turn : List (Nat × List (Nat × LD)) := []
noncomputable def B_ref10_Turn : Bodies := []
theorem run_ref10_Turn (x : denL [(.arr 21 (.st .key)), (.int .u32), .i]) : run [(11, c_ref10_Check), (25, c_ref01_In), (26, c_ref10_count), (27, c_ref02_Ahead)] L_ref10_Turn Ls_ref10_Turn B_ref10_Turn Try.f13 [(.arr 21 (.st .key)), (.int .u32), .i] [(.arr 21 (.st .key)), .i, .i] x = g_ref10_Turn x := by kernel_rfl
theorem ok_ref10_Turn : ConOK Try.prog 13 c_ref10_Turn := con_ok (ConsOK.cons ok_ref10_Check (ConsOK.cons ok_ref01_In (ConsOK.cons ok_ref10_count (ConsOK.cons ok_ref02_Ahead (ConsOK.nil))))) L_ref10_Turn Ls_ref10_Turn (B := B_ref10_Turn) (BodiesOK.nil) Try.func13 rfl fun x y hf h => (run_ref10_Turn x).trans (eq_ref10_Turn x y hf h)
noncomputable def L_ratchet_LeafAt : List (Nat × LD) := []
noncomputable def Ls_ratchet_LeafAt : List (Nat × List (Nat × LD)) := []
noncomputable def B_ratchet_LeafAt : Bodies := []
theorem run_ratchet_LeafAt (x : denL [(.st .entry), .i]) : run [(24, c_key_Ahead)] L_ratchet_LeafAt Ls_ratchet_LeafAt B_ratchet_LeafAt Try.f15 [(.st .entry), .i] [(.st .key), .i] x = g_ratchet_LeafAt x := by kernel_rfl
theorem ok_ratchet_LeafAt : ConOK Try.prog 15 c_ratchet_LeafAt := con_ok (ConsOK.cons ok_key_Ahead (ConsOK.nil)) L_ratchet_LeafAt Ls_ratchet_LeafAt (B := B_ratchet_LeafAt) (BodiesOK.nil) Try.func15 rfl fun x y hf h => (run_ratchet_LeafAt x).trans (eq_ratchet_LeafAt x y hf h)
noncomputable def L_ref10_LeafAt : List (Nat × LD) := []
noncomputable def Ls_ref10_LeafAt : List (Nat × List (Nat × LD)) := []
noncomputable def B_ref10_LeafAt : Bodies := []
theorem run_ref10_LeafAt (x : denL [(.st .entry), .i]) : run [] L_ref10_LeafAt Ls_ref10_LeafAt B_ref10_LeafAt Try.f16 [(.st .entry), .i] [(.st .key), .i] x = g_ref10_LeafAt x := by kernel_rfl
theorem ok_ref10_LeafAt : ConOK Try.prog 16 c_ref10_LeafAt := con_ok (ConsOK.nil) L_ref10_LeafAt Ls_ref10_LeafAt (B := B_ref10_LeafAt) (BodiesOK.nil) Try.func16 rfl fun x y hf h => (run_ref10_LeafAt x).trans (eq_ref10_LeafAt x y hf h)
noncomputable def L_ratchet_Follow : List (Nat × LD) := [(3, ⟨⟨[(1, .hole .i), (2, .ptr 0 []), (4, .ptr 1 []), (6, .hole .i), (11, .hole (.arr 3 (.st .key))), (12, .hole .i)], [(0, (.arr 3 (.st .key)), .hole (.arr 3 (.st .key))), (1, (.arr 3 (.st .key)), .hole (.arr 3 (.st .key)))], []⟩, [(.exit 0, ⟨[(2, .ptr 0 []), (4, .ptr 1 []), (6, .hole .i)], [(0, (.arr 3 (.st .key)), .hole (.arr 3 (.st .key))), (1, (.arr 3 (.st .key)), .hole (.arr 3 (.st .key)))], []⟩)], 12⟩)]
noncomputable def Ls_ratchet_Follow : List (Nat × List (Nat × LD)) := []
noncomputable def B_ratchet_Follow : Bodies := []
theorem run_ratchet_Follow (x : denL [(.arr 3 (.st .key)), .i]) : run [(24, c_key_Ahead)] L_ratchet_Follow Ls_ratchet_Follow B_ratchet_Follow Try.f17 [(.arr 3 (.st .key)), .i] [(.arr 3 (.st .key)), .i] x = g_ratchet_Follow x := by kernel_rfl
theorem ok_ratchet_Follow : ConOK Try.prog 17 c_ratchet_Follow := con_ok (ConsOK.cons ok_key_Ahead (ConsOK.nil)) L_ratchet_Follow Ls_ratchet_Follow (B := B_ratchet_Follow) (BodiesOK.nil) Try.func17 rfl fun x y hf h => (run_ratchet_Follow x).trans (eq_ratchet_Follow x y hf h)
noncomputable def L_ref10_Follow : List (Nat × LD) := [(2, ⟨⟨[(1, .hole .i), (2, .ptr 0 []), (4, .ptr 1 []), (6, .hole .i)], [(0, (.arr 3 (.st .key)), .hole (.arr 3 (.st .key))), (1, (.arr 3 (.st .key)), .hole (.arr 3 (.st .key)))], []⟩, [(.ret, ⟨[(4, .ptr 1 []), (5, .hole .i)], [(1, (.arr 3 (.st .key)), .hole (.arr 3 (.st .key)))], []⟩), (.exit 0, ⟨[(1, .hole .i), (2, .ptr 0 []), (4, .ptr 1 [])], [(0, (.arr 3 (.st .key)), .hole (.arr 3 (.st .key))), (1, (.arr 3 (.st .key)), .hole (.arr 3 (.st .key)))], []⟩)], 10⟩), (7, ⟨⟨[(1, .hole .i), (2, .ptr 0 []), (4, .ptr 1 []), (7, .hole .i)], [(0, (.arr 3 (.st .key)), .hole (.arr 3 (.st .key))), (1, (.arr 3 (.st .key)), .hole (.arr 3 (.st .key)))], []⟩, [(.ret, ⟨[(4, .ptr 1 []), (5, .hole .i)], [(1, (.arr 3 (.st .key)), .hole (.arr 3 (.st .key)))], []⟩), (.exit 2, ⟨[(2, .ptr 0 []), (4, .ptr 1 [])], [(0, (.arr 3 (.st .key)), .hole (.arr 3 (.st .key))), (1, (.arr 3 (.st .key)), .hole (.arr 3 (.st .key)))], []⟩)], 11⟩)]
noncomputable def Ls_ref10_Follow : List (Nat × List (Nat × LD)) := []
noncomputable def B_ref10_Follow : Bodies := []
theorem run_ref10_Follow (x : denL [(.arr 3 (.st .key)), .i]) : run [(21, c_ref02_Good), (27, c_ref02_Ahead)] L_ref10_Follow Ls_ref10_Follow B_ref10_Follow Try.f18 [(.arr 3 (.st .key)), .i] [(.arr 3 (.st .key)), .i] x = g_ref10_Follow x := by kernel_rfl
theorem ok_ref10_Follow : ConOK Try.prog 18 c_ref10_Follow := con_ok (ConsOK.cons ok_ref02_Good (ConsOK.cons ok_ref02_Ahead (ConsOK.nil))) L_ref10_Follow Ls_ref10_Follow (B := B_ref10_Follow) (BodiesOK.nil) Try.func18 rfl fun x y hf h => (run_ref10_Follow x).trans (eq_ref10_Follow x y hf h)
noncomputable def L_law10_plain : List (Nat × LD) := [(3, ⟨⟨[(0, .hole .i), (2, .ptr 0 []), (3, .ptr 1 []), (4, .hole .i)], [(0, (.arr 21 (.st .key)), .hole (.arr 21 (.st .key))), (1, (.arr 21 (.st .key)), .hole (.arr 21 (.st .key)))], []⟩, [(.exit 0, ⟨[(2, .ptr 0 []), (3, .ptr 1 [])], [(0, (.arr 21 (.st .key)), .hole (.arr 21 (.st .key))), (1, (.arr 21 (.st .key)), .hole (.arr 21 (.st .key)))], []⟩)], 10⟩)]
noncomputable def Ls_law10_plain : List (Nat × List (Nat × LD)) := []
noncomputable def B_law10_plain : Bodies := []
theorem run_law10_plain (x : denL [.i]) : run [] L_law10_plain Ls_law10_plain B_law10_plain Try.f19 [.i] [(.arr 21 (.st .key))] x = g_law10_plain x := by kernel_rfl
theorem ok_law10_plain : ConOK Try.prog 19 c_law10_plain := con_ok (ConsOK.nil) L_law10_plain Ls_law10_plain (B := B_law10_plain) (BodiesOK.nil) Try.func19 rfl fun x y hf h => (run_law10_plain x).trans (eq_law10_plain x y hf h)
noncomputable def L_law10_lives : List (Nat × LD) := []
noncomputable def Ls_law10_lives : List (Nat × List (Nat × LD)) := []
noncomputable def B_law10_lives : Bodies := []
theorem run_law10_lives (x : denL []) : run [(19, c_law10_plain), (12, c_ratchet_Turn)] L_law10_lives Ls_law10_lives B_law10_lives Try.f9 [] [.bool] x = g_law10_lives x := by kernel_rfl
theorem ok_law10_lives : ConOK Try.prog 9 c_law10_lives := con_ok (ConsOK.cons ok_law10_plain (ConsOK.cons ok_ratchet_Turn (ConsOK.nil))) L_law10_lives Ls_law10_lives (B := B_law10_lives) (BodiesOK.nil) Try.func9 rfl fun x y hf h => (run_law10_lives x).trans (eq_law10_lives x y hf h)
noncomputable def L_law10_RatchetTurns : List (Nat × LD) := []
noncomputable def Ls_law10_RatchetTurns : List (Nat × List (Nat × LD)) := []
noncomputable def B_law10_RatchetTurns : Bodies := []
theorem run_law10_RatchetTurns (x : denL [(.arr 21 (.st .key)), (.int .u32), .i]) : run [(9, c_law10_lives), (10, c_ratchet_Check), (11, c_ref10_Check), (12, c_ratchet_Turn), (13, c_ref10_Turn)] L_law10_RatchetTurns Ls_law10_RatchetTurns B_law10_RatchetTurns Try.f3 [(.arr 21 (.st .key)), (.int .u32), .i] [.bool] x = g_law10_RatchetTurns x := by kernel_rfl
theorem ok_law10_RatchetTurns : ConOK Try.prog 3 c_law10_RatchetTurns := con_ok (ConsOK.cons ok_law10_lives (ConsOK.cons ok_ratchet_Check (ConsOK.cons ok_ref10_Check (ConsOK.cons ok_ratchet_Turn (ConsOK.cons ok_ref10_Turn (ConsOK.nil)))))) L_law10_RatchetTurns Ls_law10_RatchetTurns (B := B_law10_RatchetTurns) (BodiesOK.nil) Try.func3 rfl fun x y hf h => (run_law10_RatchetTurns x).trans (eq_law10_RatchetTurns x y hf h)
noncomputable def L_law10_RatchetOneWay : List (Nat × LD) := [(13, ⟨⟨[(1, .hole (.int .u32)), (3, .ptr 0 []), (7, .ptr 1 []), (10, .hole .i), (12, .hole .i)], [(0, (.arr 21 (.st .key)), .hole (.arr 21 (.st .key))), (1, (.arr 21 (.st .key)), .hole (.arr 21 (.st .key)))], []⟩, [(.ret, ⟨[(6, .hole .bool)], [], []⟩), (.exit 2, ⟨[(1, .hole (.int .u32)), (3, .ptr 0 []), (7, .ptr 1 []), (10, .hole .i)], [(0, (.arr 21 (.st .key)), .hole (.arr 21 (.st .key))), (1, (.arr 21 (.st .key)), .hole (.arr 21 (.st .key)))], []⟩)], 10⟩), (7, ⟨⟨[(1, .hole (.int .u32)), (3, .ptr 0 []), (7, .ptr 1 []), (10, .hole .i)], [(0, (.arr 21 (.st .key)), .hole (.arr 21 (.st .key))), (1, (.arr 21 (.st .key)), .hole (.arr 21 (.st .key)))], []⟩, [(.ret, ⟨[(6, .hole .bool)], [], []⟩), (.exit 0, ⟨[], [], []⟩)], 20⟩)]
noncomputable def Ls_law10_RatchetOneWay : List (Nat × List (Nat × LD)) := []
noncomputable def B_law10_RatchetOneWay : Bodies := []
theorem run_law10_RatchetOneWay (x : denL [(.arr 21 (.st .key)), (.int .u32), .i]) : run [(9, c_law10_lives), (12, c_ratchet_Turn), (14, c_ref02_Gives)] L_law10_RatchetOneWay Ls_law10_RatchetOneWay B_law10_RatchetOneWay Try.f4 [(.arr 21 (.st .key)), (.int .u32), .i] [.bool] x = g_law10_RatchetOneWay x := by kernel_rfl
theorem ok_law10_RatchetOneWay : ConOK Try.prog 4 c_law10_RatchetOneWay := con_ok (ConsOK.cons ok_law10_lives (ConsOK.cons ok_ratchet_Turn (ConsOK.cons ok_ref02_Gives (ConsOK.nil)))) L_law10_RatchetOneWay Ls_law10_RatchetOneWay (B := B_law10_RatchetOneWay) (BodiesOK.nil) Try.func4 rfl fun x y hf h => (run_law10_RatchetOneWay x).trans (eq_law10_RatchetOneWay x y hf h)
noncomputable def L_law10_RatchetOrder : List (Nat × LD) := [(8, ⟨⟨[(1, .hole (.int .u32)), (7, .ptr 1 []), (8, .hole .i), (10, .hole .i), (11, .hole .i)], [(1, (.arr 21 (.st .key)), .hole (.arr 21 (.st .key)))], []⟩, [(.ret, ⟨[(6, .hole .bool)], [], []⟩), (.exit 0, ⟨[(8, .hole .i), (10, .hole .i)], [], []⟩)], 10⟩)]
noncomputable def Ls_law10_RatchetOrder : List (Nat × List (Nat × LD)) := []
noncomputable def B_law10_RatchetOrder : Bodies := []
theorem run_law10_RatchetOrder (x : denL [(.arr 21 (.st .key)), (.int .u32), .i]) : run [(9, c_law10_lives), (12, c_ratchet_Turn)] L_law10_RatchetOrder Ls_law10_RatchetOrder B_law10_RatchetOrder Try.f5 [(.arr 21 (.st .key)), (.int .u32), .i] [.bool] x = g_law10_RatchetOrder x := by kernel_rfl
theorem ok_law10_RatchetOrder : ConOK Try.prog 5 c_law10_RatchetOrder := con_ok (ConsOK.cons ok_law10_lives (ConsOK.cons ok_ratchet_Turn (ConsOK.nil))) L_law10_RatchetOrder Ls_law10_RatchetOrder (B := B_law10_RatchetOrder) (BodiesOK.nil) Try.func5 rfl fun x y hf h => (run_law10_RatchetOrder x).trans (eq_law10_RatchetOrder x y hf h)
noncomputable def L_law10_RatchetLeaves : List (Nat × LD) := []
noncomputable def Ls_law10_RatchetLeaves : List (Nat × List (Nat × LD)) := []
noncomputable def B_law10_RatchetLeaves : Bodies := []
theorem run_law10_RatchetLeaves (x : denL [(.st .entry), .i]) : run [(9, c_law10_lives), (15, c_ratchet_LeafAt), (16, c_ref10_LeafAt), (14, c_ref02_Gives)] L_law10_RatchetLeaves Ls_law10_RatchetLeaves B_law10_RatchetLeaves Try.f6 [(.st .entry), .i] [.bool] x = g_law10_RatchetLeaves x := by kernel_rfl
theorem ok_law10_RatchetLeaves : ConOK Try.prog 6 c_law10_RatchetLeaves := con_ok (ConsOK.cons ok_law10_lives (ConsOK.cons ok_ratchet_LeafAt (ConsOK.cons ok_ref10_LeafAt (ConsOK.cons ok_ref02_Gives (ConsOK.nil))))) L_law10_RatchetLeaves Ls_law10_RatchetLeaves (B := B_law10_RatchetLeaves) (BodiesOK.nil) Try.func6 rfl fun x y hf h => (run_law10_RatchetLeaves x).trans (eq_law10_RatchetLeaves x y hf h)
noncomputable def L_law10_RatchetFollows : List (Nat × LD) := []
noncomputable def Ls_law10_RatchetFollows : List (Nat × List (Nat × LD)) := []
noncomputable def B_law10_RatchetFollows : Bodies := []
theorem run_law10_RatchetFollows (x : denL [(.arr 3 (.st .key)), .i]) : run [(9, c_law10_lives), (17, c_ratchet_Follow), (18, c_ref10_Follow)] L_law10_RatchetFollows Ls_law10_RatchetFollows B_law10_RatchetFollows Try.f7 [(.arr 3 (.st .key)), .i] [.bool] x = g_law10_RatchetFollows x := by kernel_rfl
theorem ok_law10_RatchetFollows : ConOK Try.prog 7 c_law10_RatchetFollows := con_ok (ConsOK.cons ok_law10_lives (ConsOK.cons ok_ratchet_Follow (ConsOK.cons ok_ref10_Follow (ConsOK.nil)))) L_law10_RatchetFollows Ls_law10_RatchetFollows (B := B_law10_RatchetFollows) (BodiesOK.nil) Try.func7 rfl fun x y hf h => (run_law10_RatchetFollows x).trans (eq_law10_RatchetFollows x y hf h)
noncomputable def L_law10_RatchetRuns : List (Nat × LD) := [(7, ⟨⟨[(3, .ptr 0 []), (4, .ptr 1 []), (7, .hole .i), (8, .ptr 2 []), (9, .ptr 3 []), (10, .hole .i)], [(0, (.arr 21 (.st .key)), .hole (.arr 21 (.st .key))), (1, (.arr 3 .i), .hole (.arr 3 .i)), (2, (.arr 3 (.st .key)), .hole (.arr 3 (.st .key))), (3, (.arr 3 .i), .hole (.arr 3 .i))], []⟩, [(.exit 0, ⟨[(3, .ptr 0 []), (7, .hole .i), (8, .ptr 2 []), (9, .ptr 3 [])], [(0, (.arr 21 (.st .key)), .hole (.arr 21 (.st .key))), (2, (.arr 3 (.st .key)), .hole (.arr 3 (.st .key))), (3, (.arr 3 .i), .hole (.arr 3 .i))], []⟩)], 10⟩), (13, ⟨⟨[(3, .ptr 0 []), (7, .hole .i), (8, .ptr 2 []), (9, .ptr 3 []), (11, .ptr 14 []), (12, .hole .i)], [(0, (.arr 21 (.st .key)), .hole (.arr 21 (.st .key))), (2, (.arr 3 (.st .key)), .hole (.arr 3 (.st .key))), (3, (.arr 3 .i), .hole (.arr 3 .i)), (14, (.arr 21 (.st .key)), .hole (.arr 21 (.st .key)))], []⟩, [(.ret, ⟨[(6, .hole .bool)], [], []⟩), (.exit 2, ⟨[(3, .ptr 0 []), (7, .hole .i), (8, .ptr 2 []), (9, .ptr 3 []), (11, .ptr 14 [])], [(0, (.arr 21 (.st .key)), .hole (.arr 21 (.st .key))), (2, (.arr 3 (.st .key)), .hole (.arr 3 (.st .key))), (3, (.arr 3 .i), .hole (.arr 3 .i)), (14, (.arr 21 (.st .key)), .hole (.arr 21 (.st .key)))], []⟩)], 11⟩), (27, ⟨⟨[(7, .hole .i), (8, .ptr 2 []), (9, .ptr 3 []), (11, .ptr 14 []), (16, .ptr 26 []), (18, .hole .i)], [(2, (.arr 3 (.st .key)), .hole (.arr 3 (.st .key))), (3, (.arr 3 .i), .hole (.arr 3 .i)), (14, (.arr 21 (.st .key)), .hole (.arr 21 (.st .key))), (26, (.arr 3 (.st .key)), .hole (.arr 3 (.st .key)))], []⟩, [(.ret, ⟨[(6, .hole .bool)], [], []⟩), (.exit 4, ⟨[], [], []⟩)], 10⟩)]
noncomputable def Ls_law10_RatchetRuns : List (Nat × List (Nat × LD)) := []
noncomputable def B_law10_RatchetRuns : Bodies := []
theorem run_law10_RatchetRuns (x : denL [(.arr 21 (.st .key)), (.arr 3 .i), .i]) : run [(9, c_law10_lives), (12, c_ratchet_Turn), (11, c_ref10_Check), (17, c_ratchet_Follow)] L_law10_RatchetRuns Ls_law10_RatchetRuns B_law10_RatchetRuns Try.f8 [(.arr 21 (.st .key)), (.arr 3 .i), .i] [.bool] x = g_law10_RatchetRuns x := by kernel_rfl
theorem ok_law10_RatchetRuns : ConOK Try.prog 8 c_law10_RatchetRuns := con_ok (ConsOK.cons ok_law10_lives (ConsOK.cons ok_ratchet_Turn (ConsOK.cons ok_ref10_Check (ConsOK.cons ok_ratchet_Follow (ConsOK.nil))))) L_law10_RatchetRuns Ls_law10_RatchetRuns (B := B_law10_RatchetRuns) (BodiesOK.nil) Try.func8 rfl fun x y hf h => (run_law10_RatchetRuns x).trans (eq_law10_RatchetRuns x y hf h)
end Go.Proofs.Ytpbjflmdoboklaa
