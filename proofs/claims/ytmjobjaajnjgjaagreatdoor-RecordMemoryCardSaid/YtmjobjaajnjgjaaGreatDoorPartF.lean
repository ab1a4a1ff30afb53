/-
  The n least free slots: the program's function that ranges over an iterator of its own.
  slices.Clone at whole numbers: it answers the same row, in memory of its own.
  The program computes so: printed by a program of my own (wip/tool).
  The program computes so: printed by a program of my own (wip/tool).
  The program computes so: printed by a program of my own (wip/tool).
  The program computes so: printed by a program of my own (wip/tool).
  The program computes so: printed by a program of my own (wip/tool).
  What the form's own reach gives of the arguments of laws that make a longer slice of them.
  What the form's own reach gives of the arguments of the law RecordMemory.
  No conditions. Own text, for the claims about coterie.
-/
import Derived.RangeFuncKeeps
import Derived.RangeFuncLeaves
import Derived.RangeFuncBox
import Derived.RangeFuncCalls
import Derived.Shelf.Abstract
import Derived.WalkKit
import Derived.OwnWalkIn
import Derived.TacticsInMore
import Derived.LoopNIn
import Derived.LoopIn
import Derived.Maps.AppendAt
import Derived.RegionIn
import Derived.Shelf.RegionOpen
import Derived.Deep.LoopGhost
import Derived.Lib.Walk
import Derived.Lib.SliceRun
import Derived.Test.YtmjobjaajnjgjaaGreatDoorPartE

section
namespace Go.Proofs.YtmjobjaajnjgjaaGreatDoor
open Go Go.Co Go.Co.N Go.Proofs Go.RowKit Go.Shelf
attribute [local go_sem] Oper.semAt_some

theorem low_walk {x : Nat} (h0 : 0 < x) (h1 : x < 18446744073709551616) : 0 ≤ IntKind.u64.wrap (Go.bits BinOp.and IntKind.u64 (x : Int) (IntKind.u64.wrap (-(x : Int))) * 285870213051353865) / 288230376151711744 ∧
    IntKind.u64.wrap (Go.bits BinOp.and IntKind.u64 (x : Int) (IntKind.u64.wrap (-(x : Int))) * 285870213051353865) / 288230376151711744 < 64 ∧
    tab64[(IntKind.u64.wrap (Go.bits BinOp.and IntKind.u64 (x : Int) (IntKind.u64.wrap (-(x : Int))) * 285870213051353865) / 288230376151711744).toNat]? = some (tzN x) := by
  have e1 : IntKind.u64.wrap (-(x : Int)) = ((18446744073709551616 - x : Nat) : Int) := by
    show (-(x : Int)) % 18446744073709551616 = _
    omega
  have e2 : Go.bits BinOp.and IntKind.u64 (x : Int) ((18446744073709551616 - x : Nat) : Int) = ((x &&& (18446744073709551616 - x) : Nat) : Int) := bw_and64 _ _ h1 (by omega)
  have e3 : IntKind.u64.wrap (((x &&& (18446744073709551616 - x) : Nat) : Int) * 285870213051353865) = (((x &&& (18446744073709551616 - x)) * 285870213051353865 % 18446744073709551616 : Nat) : Int) := by
    show (((x &&& (18446744073709551616 - x) : Nat) : Int) * 285870213051353865) % 18446744073709551616 = _
    omega
  have hlt : (x &&& (18446744073709551616 - x)) * 285870213051353865 % 18446744073709551616 < 18446744073709551616 := Nat.mod_lt _ (by omega)
  rw [e1, e2, e3]
  refine ⟨by omega, by omega, ?_⟩
  have := tab_low h0 (show x < 2 ^ 64 by omega)
  rw [show (((((x &&& (18446744073709551616 - x)) * 285870213051353865 % 18446744073709551616 : Nat) : Int)) / 288230376151711744).toNat = (x &&& (18446744073709551616 - x)) * 285870213051353865 % 18446744073709551616 / 288230376151711744 by omega]
  exact this
theorem glob_name : ∃ gl, Tryz.prog.globals[0]? = some gl ∧ gl.name = "math/bits.deBruijn64tab" := by
  have h : (Tryz.prog.globals[0]?.map (·.name)) = some "math/bits.deBruijn64tab" := by kernel_rfl
  cases hg : Tryz.prog.globals[0]? with
  | none => rw [hg] at h; cases h
  | some gl => rw [hg] at h; exact ⟨gl, rfl, Option.some.inj h⟩
theorem wrap_tz {x : Nat} (h0 : 0 < x) (h1 : x < 18446744073709551616) : wrap64 (tzN x : Int) = (tzN x : Int) := by
  have := (bitsL_cons h0 (show x < 2 ^ 64 by omega)).1
  exact Go.IntWalk.wrap64_in _ (by omega)
set_option maxHeartbeats 1000000 in
theorem tz_in (F : Fence) (n : Nat) (hF : F.fn 103) (hro : F.round = none) (x : Nat) (h0 : 0 < x) (h1 : x < 18446744073709551616) (w : World) (hg : GOK Tryz.prog w) :
    CallsIn F n Tryz.prog 103 #[.int .u64 (x : Int)] w fun e w' => e = .returned (.int .i64 (tzN x : Int)) ∧ w' = w := by
  obtain ⟨b1, b2, b3⟩ := low_walk h0 h1
  obtain ⟨gl, g1, g2⟩ := glob_name
  have hc := hg 0 gl g1 g2 _ _ b3
  have hx : ¬ (x : Int) = 0 := by omega
  have hx2 : ((x : Int) == 0) = false := by simpa using hx
  refine callsIn_of_wp Tryz.func103 rfl hF ?_ hro
  simp only [Tryz.ntmps103, List.size_toArray, List.length_cons, List.length_nil, Nat.reduceAdd, Nat.reduceSub, Array.replicate_succ, Array.replicate_zero, List.push_toArray, List.append_toArray, List.nil_append, List.cons_append]
  gi_wp2
  rw [wrap_tz h0 h1]
  go_ret
  exact ⟨rfl, rfl⟩

/-! ### The iterator -/
/-- What a box holds of a word. -/
def boxW (W : World) (B : Nat) : Nat := match W.cell? ⟨B, 0, none⟩ with | some (.int _ x) => x.toNat | _ => 0
theorem boxW_eq {W : World} {B x : Nat} {t : TypeId} (h : Boxed W B t (.int .u64 (x : Int))) : boxW W B = x := by
  unfold boxW; rw [h.cell]; simp
theorem pred_walk {x : Nat} (h0 : 0 < x) (h1 : x < 18446744073709551616) : Go.bits BinOp.and IntKind.u64 (x : Int) ((x : Int) - 1) = ((x &&& (x - 1) : Nat) : Int) := by
  have e1 : (x : Int) - 1 = ((x - 1 : Nat) : Int) := by omega
  rw [e1]
  exact bw_and64 _ _ h1 (by omega)
set_option maxRecDepth 100000 in
set_option maxHeartbeats 2000000 in
theorem each1_in (F : Fence) (n : Nat) (h103 : F.fn 102) (h104 : F.fn 103) (hro : F.round = none) (hn : 1 ≤ n) (l Be : Nat) (x0 : Nat) (hx0 : x0 < 18446744073709551616) (J Jx : List Nat → World → Prop)
    (hJ : ∀ pre A x v, J pre A → Boxed A Be 62 x → J pre (A.setCell ⟨Be, 0, none⟩ v)) (hJg : ∀ pre A, J pre A → GOK Tryz.prog A)
    (hY : ∀ (pre : List Nat) (x : Nat) W, J pre W → pre ++ [x] <+: bitsL x0 → YieldAt F (n - 1) Tryz.prog l #[.int .i64 (x : Int)] W fun e W' =>
      (e = .returned (.bool true) ∧ J (pre ++ [x]) W' ∧ W'.heap[Be]? = W.heap[Be]?) ∨ (e = .returned (.bool false) ∧ Jx (pre ++ [x]) W'))
    (W : World) (hBe : Boxed W Be 62 (.int .u64 (x0 : Int))) (h0 : J [] W) :
    CallsIn F n Tryz.prog 102 #[.func (.yield l) #[] #[], .pointer (some ⟨Be, 0, none⟩)] W fun e W' => (∃ v, e = .returned v) ∧ (J (bitsL x0) W' ∨ (∃ pre, pre <+: bitsL x0 ∧ Jx pre W')) := by
  refine callsIn_of_wp Tryz.func102 rfl h103 ?_ hro
  simp only [Tryz.ntmps102, List.size_toArray, List.length_cons, List.length_nil, Nat.reduceAdd, Nat.reduceSub, Array.replicate_succ, Array.replicate_zero, List.push_toArray, List.append_toArray, List.nil_append, List.cons_append]
  gi_wp2
  gi_loopw [] (fun wr => ∃ (pre : List Nat) (rem : Nat), bitsL x0 = pre ++ bitsL rem ∧ rem < 18446744073709551616 ∧ Boxed wr Be 62 (.int .u64 (rem : Int)) ∧ J pre wr)
    (fun wr => boxW wr Be)
  case atStart => exact ⟨[], x0, rfl, hx0, hBe, h0⟩
  case round =>
    obtain ⟨pre, rem, hx, hlt, hb, hJs⟩ := hrel
    have hc := hb.cell
    by_cases hz : rem = 0
    · subst hz
      have hz0 : (((0 : Nat) : Int) == 0) = true := rfl
      gi_wp2
      go_end0
      rw [bitsL_zero, List.append_nil] at hx
      exact ⟨⟨_, rfl⟩, .inl (by rw [hx]; exact hJs)⟩
    · have hz0 : (((rem : Nat) : Int) == 0) = false := by simpa using hz
      obtain ⟨k1, k2, k3⟩ := bitsL_cons (show 0 < rem by omega) (show rem < 2 ^ 64 by omega)
      have hpre : pre ++ [tzN rem] <+: bitsL x0 := ⟨bitsL (rem &&& (rem - 1)), by rw [hx, k2]; simp⟩
      obtain ⟨fn, tmps, assign, body, hy, hR⟩ := hY pre (tzN rem) wr hJs hpre
      gi_wp2_with (gi_at_call 103; refine (tz_in F (n - 1) h104 hro rem (by omega) hlt wr (hJg _ _ hJs)).mono ?_; rintro e w' ⟨rfl, rfl⟩)
      refine hR.mono ?_
      rintro e W3 (⟨rfl, hJ3, hk3⟩ | ⟨rfl, hJx3⟩)
      · have hb3 : Boxed W3 Be 62 (.int .u64 (rem : Int)) := hk3.trans hb
        have hc3 := hb3.cell
        have hf3 := hb3.frozen
        gi_wp2
        rw [pred_walk (by omega) hlt]
        go_roundw
        case rel => exact ⟨pre ++ [tzN rem], rem &&& (rem - 1), by rw [hx, k2]; simp, by omega, hb3.set _, hJ _ _ _ _ hJ3 hb3⟩
        case measure => rw [boxW_eq (hb3.set _), boxW_eq hb]; exact k3
      · gi_wp2
        refine bodyPost_ret (results_none rfl _ _ _) rfl ?_
        exact ⟨⟨_, rfl⟩, .inr ⟨pre ++ [tzN rem], hpre, hJx3⟩⟩
set_option maxHeartbeats 1000000 in
theorem each_in (F : Fence) (n : Nat) (hF : F.fn 99) (hro : F.round = none) (x : Int) (w : World) :
    CallsIn F n Tryz.prog 99 #[.int .u64 x] w fun e w' => e = .returned (.func (.func 102) #[] #[.pointer (some ⟨w.heap.size, 0, none⟩)]) ∧ w' = w.alloc (.cells #[.int .u64 x] 62) := by
  refine callsIn_of_wp Tryz.func99 rfl hF ?_ hro
  simp only [Tryz.ntmps99, List.size_toArray, List.length_cons, List.length_nil, Nat.reduceAdd, Nat.reduceSub, Array.replicate_succ, Array.replicate_zero, List.push_toArray, List.append_toArray, List.nil_append, List.cons_append]
  gi_wp2
  go_ret
  exact ⟨rfl, rfl⟩

/-! ### The least free slots -/
theorem count_calls (h : ConOK Tryz.prog 75 c_seats_Count) (s : Nat) (hs : s < 18446744073709551616) (w : World) (hg : GOK Tryz.prog w) :
    CallsIn Fence.wide 9 Tryz.prog 75 #[.int .u64 (s : Int)] w fun e w' => e = .returned (.int .i64 (cntW (s : Int))) ∧ Blw w.heap.size w w' := by
  refine callsIn_wide.2 (Calls.mono (h.run w (fun _ => False) ((s : Int), ()) [.int .u64 (s : Int)] _ hg (fun _ h => h.elim) ⟨⟨_, rfl, Rd.int.2 ⟨rfl, ?_⟩⟩, trivial⟩ rfl) ?_)
  · rw [inKind_iff]; show 0 ≤ (s : Int) ∧ (s : Int) ≤ 18446744073709551615; omega
  · rintro e w' ⟨z, rfl, hb, cs, hz, hr⟩
    have hr := (Rd.int.1 hr).1
    subst hr
    exact ⟨by rw [hz]; rfl, hb⟩
theorem bit_calls (h : ConOK Tryz.prog 100 c_seats_bit) (i : Nat) (hi : i < 64) (w : World) (hg : GOK Tryz.prog w) :
    CallsIn Fence.wide 7 Tryz.prog 100 #[.int .i64 (i : Int)] w fun e w' => e = .returned (.int .u64 ((2 ^ i : Nat) : Int)) ∧ Blw w.heap.size w w' := by
  refine callsIn_wide.2 (Calls.mono (h.run w (fun _ => False) ((i : Int), ()) [.int .i64 (i : Int)] _ hg (fun _ h => h.elim) ⟨⟨_, rfl, Rd.int.2 ⟨rfl, ?_⟩⟩, trivial⟩ rfl) ?_)
  · rw [inKind_iff]; show -9223372036854775808 ≤ (i : Int) ∧ (i : Int) ≤ 9223372036854775807; omega
  · rintro e w' ⟨z, rfl, hb, cs, hz, hr⟩
    have hr := (Rd.int.1 hr).1
    subst hr
    refine ⟨?_, hb⟩
    rw [hz]
    show Ending.returned (Value.int IntKind.u64 (bitOf (i : Int))) = _
    unfold bitOf
    rw [if_pos ⟨by omega, by omega⟩, Int.toNat_natCast]
/-- An answer of three. -/
def takeRes (W : World) (base : Nat) (z : Value) (l : List Nat) (s : Nat) : Prop := ∃ v, z = .tuple #[v, .int .u64 (s : Int), .int .i64 0] ∧ W.ownsRow base 3 1 v l.length (l.map fun (i : Nat) => Value.int .i64 (i : Int))
theorem region_key {F : Fence} {n : Nat} {P : Program} {c : Code} {K : Act → World → Prop} {X : Exit → Act → World → Prop} {a : Act} {w : World} (a' : Act) (Inv : World → Prop) (h1 : ∀ w', Inv w' → K a' w')
    (h2 : c.wpIn F n P (Exit.then (fun a w => a = a' ∧ Inv w) (fun _ _ _ => False)) a w) : c.wpIn F n P (Exit.then K X) a w :=
  Go.wpIn_mono h2 fun e a w h => by
    cases e with
    | normal => obtain ⟨rfl, h⟩ := h; exact h1 w h
    | _ => exact h.elim
theorem region_calm {F : Fence} {n : Nat} {P : Program} {c : Code} {K : Act → World → Prop} {X : Exit → Act → World → Prop} {a : Act} {w : World} (h : c.wpIn F n P (Exit.then K (fun _ _ _ => False)) a w) : c.wpIn F n P (Exit.then K X) a w :=
  Go.wpIn_mono h fun e a w h => by cases e <;> first | exact h | exact h.elim
theorem res80 (tmps : Array Value) (w : World) : (results Tryz.f80 tmps).run Tryz.prog w = .ok (.tuple #[tmps.getD 4 undef, tmps.getD 5 undef, tmps.getD 6 undef]) w := by
  simp [results, Tryz.f80, go_sem]
theorem compl_bits {s : Nat} (hs : s < 18446744073709551616) : Go.bits BinOp.xor IntKind.u64 IntKind.u64.max (s : Int) = ((18446744073709551615 - s : Nat) : Int) := by
  have hx : bw .xor .u64 ((18446744073709551615 : Nat) : Int) (s : Int) = ((18446744073709551615 ^^^ s : Nat) : Int) :=
    bwN (op := .xor) (f := fun a b => a ^^^ b) (fun a b ha hb => Nat.xor_lt_two_pow (n := 64) ha hb) (fun a b ha hb => by
      show (BitVec.ofNat 64 a ^^^ BitVec.ofNat 64 b).toNat = _
      simp [BitVec.toNat_xor, Nat.mod_eq_of_lt ha, Nat.mod_eq_of_lt hb]) _ _ (by omega) hs
  refine hx.trans ?_
  congr 1
  apply Nat.eq_of_testBit_eq
  intro i
  have h1 := Nat.testBit_two_pow_sub_one 64 i
  have h2 := Nat.testBit_two_pow_sub_succ (n := 64) (x := s) (by omega) i
  rw [Nat.testBit_xor, show (18446744073709551615 : Nat) = 2 ^ 64 - 1 from rfl, h1, show (2 : Nat) ^ 64 - 1 - s = 2 ^ 64 - (s + 1) by omega, h2]
  by_cases hi : i < 64
  · simp [hi]
  · have : s.testBit i = false := Nat.testBit_lt_two_pow (Nat.lt_of_lt_of_le (show s < 2 ^ 64 by omega) (Nat.pow_le_pow_right (by omega) (by omega)))
    simp [hi, this]
theorem bitI_nat (s i : Nat) : bitI (s : Int) i = s.testBit i := by
  unfold bitI
  rw [Nat.testBit_eq_decide_div_mod_eq]
  congr 1
  rw [show ((s : Int) / 2 ^ i) = ((s / 2 ^ i : Nat) : Int) by simp]
  simp only [eq_iff_iff]; omega
theorem bitsL_compl {s : Nat} (hs : s < 18446744073709551616) : bitsL (18446744073709551615 - s) = freeL (s : Int) := by
  unfold bitsL freeL
  refine List.filter_congr fun i hi => ?_
  have hi : i < 64 := by simpa using hi
  have h2 := Nat.testBit_two_pow_sub_succ (n := 64) (x := s) (by omega) i
  rw [show (18446744073709551615 : Nat) - s = 2 ^ 64 - (s + 1) by omega, h2, bitI_nat]
  simp [hi]
theorem freeL_len (s : Nat) : (freeL (s : Int)).length = 64 - cntW (s : Int) := by
  unfold freeL cntW
  rw [filter_cnt, filter_cnt]
  have := cntP_not (bitI (s : Int)) 64
  omega
theorem orL_snoc (s : Nat) (l : List Nat) (i : Nat) : orL s (l ++ [i]) = orL s l ||| 2 ^ i := by simp [orL]
theorem orL_lt {s : Nat} (hs : s < 18446744073709551616) : ∀ l : List Nat, (∀ i ∈ l, i < 64) → orL s l < 18446744073709551616 := by
  intro l
  induction l generalizing s with
  | nil => intro _; exact hs
  | cons i l ih =>
    intro h
    refine ih ?_ fun j hj => h j (List.mem_cons_of_mem _ hj)
    have h2 : (2 : Nat) ^ i < 2 ^ 64 := Nat.pow_lt_pow_right (by omega) (h i (List.mem_cons_self ..))
    exact Nat.or_lt_two_pow (n := 64) hs h2
theorem or_walk {a b : Nat} (ha : a < 18446744073709551616) (hb : b < 18446744073709551616) : Go.bits BinOp.or IntKind.u64 (a : Int) (b : Int) = ((a ||| b : Nat) : Int) := bw_or64 _ _ ha hb
theorem bitsL_lt {x i : Nat} (h : i ∈ bitsL x) : i < 64 := by
  unfold bitsL at h
  simp only [List.mem_filter, List.mem_range] at h
  exact h.1
/-- What the loop keeps. -/
def takeI (w : World) (s : Nat) (n : Int) (N0 Bo : Nat) (pre : List Nat) (W : World) : Prop :=
  Blw w.heap.size w W ∧ N0 ≤ W.heap.size ∧ Boxed W w.heap.size 62 (.int .u64 (orL s pre : Int)) ∧ Boxed W (w.heap.size + 1) 3 (.int .i64 n) ∧ pre.length ≤ n.toNat ∧ ∃ v, Boxed W Bo 32 v ∧ W.ownsRow N0 3 1 v pre.length (pre.map fun (i : Nat) => Value.int .i64 (i : Int))
theorem Boxed.putObj {A : World} {B : Nat} {t : TypeId} {v : Value} (h : Boxed A B t v) {l : Nat} {o o' : Obj} (hl : A.heap[l]? = some o) (ho : o.isCells = false) : Boxed (A.putObj l o') B t v := by
  have hne : B ≠ l := fun e => by
    rw [e] at h
    rw [show A.heap[l]? = _ from h] at hl
    cases hl; cases ho
  exact (World.putObj_heap_other hne).trans h
theorem ownsRow_base {W : World} {b b' : Nat} {e : TypeId} {size : Nat} {v : Value} {k : Nat} {xs : List Value} (h : W.ownsRow b e size v k xs) (hb : b' ≤ b) : W.ownsRow b' e size v k xs := by
  refine ⟨h.1, ?_⟩
  rcases h.2 with h | ⟨g, cap, cur, h1, h2, h3⟩
  · exact .inl h
  · exact .inr ⟨g, cap, cur, h1, by omega, h3⟩
theorem ownsRow_form {W : World} {b : Nat} {e : TypeId} {size : Nat} {v : Value} {k : Nat} {xs : List Value} (h : W.ownsRow b e size v k xs) : ∃ ad cap, v = .slice ad k cap := by
  rcases h.2 with ⟨rfl, rfl⟩ | ⟨g, cap, cur, rfl, _⟩
  · exact ⟨_, _, rfl⟩
  · exact ⟨_, _, rfl⟩
theorem keeps_blw {A B : World} (h : Blw A.heap.size A B) : KeepsOthers A B := ⟨h.size, fun j o ho _ => (h.block j (Array.getElem?_eq_some_iff.1 ho).1).trans ho⟩
theorem takeI_cl (w : World) (s : Nat) (n : Int) (N0 Bo n0 : Nat) (hn : w.heap.size ≤ n0) : Cl n0 (takeI w s n N0 Bo) := by
  constructor
  · rintro pre A o ho ⟨h1, h2, h3, h4, h5, v, h6, h7⟩
    refine ⟨⟨h1.toBelow.alloc h1.size o, fun a => (fz_alloc A o (fun _ _ _ e => by subst e; cases ho) a).trans (h1.fz a)⟩, by simp; omega, h3.alloc _, h4.alloc _, h5, v, h6.alloc _, h7.alloc _⟩
  · rintro pre A l o o' hl ⟨h1, h2, h3, h4, h5, v, h6, h7⟩ hlo ho ho'
    refine ⟨⟨⟨h1.os, h1.tape, h1.output, Nat.le_trans h1.size (grownBy_putObj' A l o').size, fun k hk => (World.putObj_heap_other (by omega)).trans (h1.block k hk)⟩, fun a => (fz_putObj A o' hlo ho ho' a).trans (h1.fz a)⟩, Nat.le_trans h2 (grownBy_putObj' A l o').size, Boxed.putObj h3 hlo ho, Boxed.putObj h4 hlo ho, h5, v, Boxed.putObj h6 hlo ho, ownsRow_putObj h7 _ hlo ho⟩
set_option maxRecDepth 100000 in
set_option maxHeartbeats 4000000 in
theorem take_in (hcn : ConOK Tryz.prog 75 c_seats_Count) (hbt : ConOK Tryz.prog 100 c_seats_bit) (s : Nat) (hs : s < 18446744073709551616) (n : Int) (hn : -9223372036854775808 ≤ n ∧ n ≤ 9223372036854775807) (w : World) (hg : GOK Tryz.prog w) :
    CallsIn Fence.wide 10 Tryz.prog 80 #[.int .u64 (s : Int), .int .i64 n] w fun e W' => ∃ z, e = .returned z ∧ Blw w.heap.size w W' ∧
      (n < 0 → z = .tuple #[.slice none 0 0, .int .u64 0, .int .i64 1]) ∧ (0 ≤ n → 64 - cntW (s : Int) < n → z = .tuple #[.slice none 0 0, .int .u64 0, .int .i64 18]) ∧
      (0 ≤ n → n ≤ 64 - cntW (s : Int) → takeRes W' w.heap.size z ((freeL (s : Int)).take n.toNat) (orL s ((freeL (s : Int)).take n.toNat))) := by
  refine callsIn_of_wp_marks Tryz.func80 rfl trivial ?_ rfl
  simp only [Tryz.ntmps80, List.size_toArray, List.length_cons, List.length_nil, Nat.reduceAdd, Nat.reduceSub, Array.replicate_succ, Array.replicate_zero, List.push_toArray, List.append_toArray, List.nil_append, List.cons_append]
  have hmx : Tryz.prog.follows .mixedOrders = true := by kernel_rfl
  gi_wp2
  · exact ⟨_, res80 _ _, _, rfl, ⟨((Below.refl _ w).alloc (Nat.le_refl _) _).alloc (by simp) _, fun a => (fz_alloc _ _ (fun _ _ _ h => by cases h; rfl) a).trans (fz_alloc _ _ (fun _ _ _ h => by cases h; rfl) a)⟩, fun _ => rfl, fun h => absurd h (by omega), fun h => absurd h (by omega)⟩
  · have bS : Boxed ((w.alloc (.cells #[.int .u64 (s : Int)] 62)).alloc (.cells #[.int .i64 n] 3)) w.heap.size 62 (.int .u64 (s : Int)) := (Boxed.new w 62 _).alloc _
    have bN : Boxed ((w.alloc (.cells #[.int .u64 (s : Int)] 62)).alloc (.cells #[.int .i64 n] 3)) (w.heap.size + 1) 3 (.int .i64 n) := by
      have := Boxed.new (w.alloc (.cells #[.int .u64 (s : Int)] 62)) 3 (.int .i64 n)
      rwa [World.size_alloc] at this
    have b0 : Blw w.heap.size w ((w.alloc (.cells #[.int .u64 (s : Int)] 62)).alloc (.cells #[.int .i64 n] 3)) := ⟨((Below.refl _ w).alloc (Nat.le_refl _) _).alloc (by simp) _, fun a => (fz_alloc _ _ (fun _ _ _ h => by cases h; rfl) a).trans (fz_alloc _ _ (fun _ _ _ h => by cases h; rfl) a)⟩
    generalize hW2 : (w.alloc (.cells #[.int .u64 (s : Int)] 62)).alloc (.cells #[.int .i64 n] 3) = W2 at *
    have hlt2 : w.heap.size + 2 ≤ W2.heap.size := by rw [← hW2]; simp
    have c1 := bS.cell
    have c2 := bN.cell
    have hg2 : GOK Tryz.prog W2 := hg.blw b0 (Nat.le_refl _)
    have hcw := cntW_le (s : Int)
    have hwr : IntKind.i64.wrap (64 - cntW (s : Int)) = 64 - cntW (s : Int) := i64_in _ (by omega)
    refine region_key { tmps := #[.int .u64 (s : Int), .int .i64 n, .pointer (some ⟨w.heap.size, 0, none⟩), .pointer (some ⟨w.heap.size + 1, 0, none⟩), .slice none 0 0, .int .u64 0, .int .i64 0, undef, undef, .bool (decide (n < 0)), .int .i64 n, .bool (decide (n < 0)), .bool (decide ((64 - cntW (s : Int)) < n)), .int .i64 n, .int .u64 (s : Int), .int .i64 (cntW (s : Int)), .int .i64 ((64 - cntW (s : Int))), .bool (decide ((64 - cntW (s : Int)) < n)), undef, undef, undef, undef, undef, undef, undef, undef, undef, undef, undef, undef, undef, undef, undef, undef, undef, undef], defers := [] }
      (fun w' => Blw w.heap.size w w' ∧ Boxed w' w.heap.size 62 (.int .u64 (s : Int)) ∧ Boxed w' (w.heap.size + 1) 3 (.int .i64 n)) ?_ ?_
    rotate_left
    · gi_region_with_o (refine ⟨trivial, ?_⟩; gi_at_call 75; refine (count_calls hcn s hs W2.drew hg2).mono ?_; rintro e w' ⟨rfl, hb⟩; have bS3 : Boxed w' w.heap.size 62 (.int .u64 (s : Int)) := (hb.block _ (show w.heap.size < W2.heap.size by omega)).trans bS; have bN3 : Boxed w' (w.heap.size + 1) 3 (.int .i64 n) := (hb.block _ (show w.heap.size + 1 < W2.heap.size by omega)).trans bN; have b3 : Blw w.heap.size w w' := (b0.trans ⟨(Below.refl _ W2).drew, fun _ => rfl⟩).trans (hb.mono (show w.heap.size ≤ W2.heap.size by omega)); have c3 := bS3.cell; have c4 := bN3.cell)
      all_goals exact ⟨rfl, b3, bS3, bN3⟩
    rintro w' ⟨b3, bS3, bN3⟩
    have c3 := bS3.cell
    have c4 := bN3.cell
    have bS4 := bS3.alloc (.cells #[.slice none 0 0] 32)
    have c5 := bS4.cell
    gi_wp2_with (refine ⟨trivial, ?_⟩; gi_at_call 99; refine (each_in Fence.wide 9 trivial rfl _ _).mono ?_; rintro e w2 ⟨rfl, rfl⟩)
    · exact ⟨_, res80 _ _, _, rfl, b3, fun h => absurd h (by omega), fun _ _ => rfl, fun _ h => absurd h (by omega)⟩
    · rw [compl_bits hs]
      have hle : w.heap.size + 2 ≤ w'.heap.size := by have := bN3.lt; omega
      have bS5 := bS4.alloc (.cells #[.int .u64 ((18446744073709551615 - s : Nat) : Int)] 62)
      have bN5 := (bN3.alloc (.cells #[.slice none 0 0] 32)).alloc (.cells #[.int .u64 ((18446744073709551615 - s : Nat) : Int)] 62)
      have bO5 := (Boxed.new w' 32 (.slice none 0 0)).alloc (.cells #[.int .u64 ((18446744073709551615 - s : Nat) : Int)] 62)
      have bE5 := Boxed.new (w'.alloc (.cells #[.slice none 0 0] 32)) 62 (.int .u64 ((18446744073709551615 - s : Nat) : Int))
      rw [World.size_alloc] at bE5
      have hB5 : Blw w.heap.size w ((w'.alloc (.cells #[.slice none 0 0] 32)).alloc (.cells #[.int .u64 ((18446744073709551615 - s : Nat) : Int)] 62)) := ⟨(b3.toBelow.alloc b3.size _).alloc (by simp; exact Nat.le_succ_of_le b3.size) _, fun a => ((fz_alloc _ _ (fun _ _ _ h => by cases h; rfl) a).trans (fz_alloc _ _ (fun _ _ _ h => by cases h; rfl) a)).trans (b3.fz a)⟩
      have hsz : ((w'.alloc (.cells #[.slice none 0 0] 32)).alloc (.cells #[.int .u64 ((18446744073709551615 - s : Nat) : Int)] 62)).heap.size = w'.heap.size + 2 := by simp
      generalize (w'.alloc (.cells #[.slice none 0 0] 32)).alloc (.cells #[.int .u64 ((18446744073709551615 - s : Nat) : Int)] 62) = W0 at *
      obtain ⟨i0, hi, hz0, hz1, hz2⟩ := info_parts (show (Tryz.prog.info? 3).map (fun i => (i.zero, i.size, i.bytes)) = some (some (.int .i64 0), 1, 8) by kernel_rfl)
      refine rangeFunc_box (n := 10) rfl (by omega) (gf := 102) (lb := #[.pointer (some ⟨w'.heap.size + 1, 0, none⟩)]) rfl trivial (enters_of Tryz.func102 (by kernel_rfl) rfl) (encs := fun x : Nat => #[Value.int .i64 (x : Int)]) (Be := w'.heap.size + 1) (tB := 62) (xB := .int .u64 ((18446744073709551615 - s : Nat) : Int)) (G := GOK Tryz.prog) (xs := bitsL (18446744073709551615 - s)) (fun _ => rfl)
        (fun l J Jx W hJ hG hY hB h0 => each1_in Fence.wide 9 trivial trivial rfl (by omega) l (w'.heap.size + 1) _ (by omega) J Jx hJ hG hY W hB h0)
        bE5 (takeI w s n W0.heap.size w'.heap.size) (fun c pre W => c = .exit 1 ∧ ∃ (pre0 : List Nat) (x : Nat), pre = pre0 ++ [x] ∧ pre0.length = n.toNat ∧ takeI w s n W0.heap.size w'.heap.size pre0 W)
        (takeI_cl w s n _ _ _ (by omega)) (fun c => ⟨fun pre A o ho ⟨h1, pre0, x, h2, h3, h4⟩ => ⟨h1, pre0, x, h2, h3, (takeI_cl w s n _ _ W0.heap.size (by omega)).alloc _ _ _ ho h4⟩, fun pre A l o o' hl ⟨h1, pre0, x, h2, h3, h4⟩ hlo ho ho' => ⟨h1, pre0, x, h2, h3, (takeI_cl w s n _ _ W0.heap.size (by omega)).putObj _ _ _ _ _ hl h4 hlo ho ho'⟩⟩)
        ?set (fun pre A h => hg.blw h.1 (Nat.le_refl _)) ⟨hB5, Nat.le_refl _, bS5, bN5, by simp, _, bO5, World.ownsRow_nil _ _ _ _⟩
        (fun x => { tmps := #[.int .u64 (s : Int), .int .i64 n, .pointer (some ⟨w.heap.size, 0, none⟩), .pointer (some ⟨w.heap.size + 1, 0, none⟩), .slice none 0 0, .int .u64 0, .int .i64 0, .pointer (some ⟨w'.heap.size, 0, none⟩), .int .i64 (x : Int), .bool (decide (n < 0)), .int .i64 n, .bool (decide (n < 0)), .bool (decide ((64 - cntW (s : Int)) < n)), .int .i64 n, .int .u64 (s : Int), .int .i64 (cntW (s : Int)), .int .i64 (64 - cntW (s : Int)), .bool (decide ((64 - cntW (s : Int)) < n)), .int .u64 (s : Int), .int .u64 ((18446744073709551615 - s : Nat) : Int), .func (.func 102) #[] #[.pointer (some ⟨w'.heap.size + 1, 0, none⟩)], .int .i64 (x : Int), undef, undef, undef, undef, undef, undef, undef, undef, undef, undef, undef, undef, undef, undef], defers := [] })
        ?assign ?body ?done ?stop
      case set =>
        rintro pre A x v ⟨h1, h2, h3, h4, h5, v', h6, h7⟩ hb
        have oth : ∀ {B : Nat} {t : TypeId} {u : Value}, B ≠ w'.heap.size + 1 → Boxed A B t u → Boxed (A.setCell ⟨w'.heap.size + 1, 0, none⟩ v) B t u := fun hne h => (Below.heap_setCell _ _ _ _ hne).trans h
        refine ⟨⟨h1.toBelow.setCell (p := ⟨w'.heap.size + 1, 0, none⟩) (show w.heap.size ≤ w'.heap.size + 1 by omega) _, fun a => (fz_set _ _ _ a).trans (h1.fz a)⟩, Nat.le_trans h2 (grownBy_setCell' A _ v).size, oth (by omega) h3, oth (by omega) h4, h5, v', oth (by omega) h6, h7.kept (grownBy_setCell' A _ v) ?_⟩
        rcases h7.2 with ⟨rfl, _⟩ | ⟨g, cap, cur, rfl, hbg, _⟩
        · exact .inl rfl
        · exact .inr (by simp [Value.ownBlock]; omega)
      case assign =>
        intro l x W K hK
        gi_wp2
        exact hK
      case body =>
        rintro l pre x W ⟨h1, h2, h3, h4, h5, v, h6, h7⟩ hpre
        have hx64 : x < 64 := bitsL_lt (hpre.subset (List.mem_append.2 (.inr (by simp))))
        have hp64 : ∀ i ∈ pre, i < 64 := fun i hi => bitsL_lt (hpre.subset (List.mem_append.2 (.inl hi)))
        have hol := orL_lt hs pre hp64
        have hxp : (2 : Nat) ^ x < 18446744073709551616 := Nat.pow_lt_pow_right (by omega) hx64
        have hplen : pre.length ≤ 64 := by
          have := hpre.length_le
          have h2 : (bitsL (18446744073709551615 - s)).length ≤ 64 := by unfold bitsL; have := List.length_filter_le (fun i => (18446744073709551615 - s).testBit i) (List.range 64); simpa using this
          simp at this; omega
        have hml : (65 : Nat) ≤ maxLen := by decide
        obtain ⟨ad, cap, rfl⟩ := ownsRow_form h7
        have k3 := h3.cell
        have k4 := h4.cell
        have k6 := h6.cell
        have k3f := h3.frozen
        have k6f := h6.frozen
        gi_wp2_with (gi_at_builtin; refine wpListIn_append_fz _ rfl _ _ 32 rfl W0.heap.size 3 i0 (.int .i64 0) 1 8 Tryz.underlying32 hi hz0 hz1 hz2 rfl (by decide) _ _ _ rfl (h7.alloc _) ⟨W.heap.size, 0, none⟩ 1 1 [.int .i64 (x : Int)] rfl rfl (cell_one_new _ _ _) (by simp [Value.oneCell']) (by omega) (by omega) (by omega) (by simp; omega) ?_; intro v' w1 hown' hgrow _ hfz; obtain ⟨g', cap', rfl⟩ := ownsRow_succ hown'; obtain ⟨hv1, hv2, hr2, hk2, hb2⟩ := h6.appended (by decide) (ownsRow_base h7 (show w'.heap.size ≤ W0.heap.size by omega)) (by omega) (Nat.le_refl _) (ownsRow_base hown' (show w'.heap.size ≤ W0.heap.size by omega)) hgrow; have hB3 : Blw w'.heap.size W (w1.setCell ⟨w'.heap.size, 0, none⟩ (.slice (some ⟨g', 0, none⟩) (pre.length + 1) cap')) := ⟨hb2, fun a => (fz_set _ _ _ a).trans ((hfz a).trans (fz_alloc _ _ (fun _ _ _ h => by cases h; rfl) a))⟩; clear hfz; have hc1 := hv1.cell; have hf1 := hv1.frozen)
        · refine ⟨KeepsOthers.refl _, rfl, pre, x, rfl, ?_, h1, h2, h3, h4, h5, _, h6, h7⟩
          have : ((pre.length : Int) == n) = true := by assumption
          have := eq_of_beq this
          omega
        · have hBe : (w1.setCell ⟨w'.heap.size, 0, none⟩ (.slice (some ⟨g', 0, none⟩) (pre.length + 1) cap')).heap[w'.heap.size + 1]? = W.heap[w'.heap.size + 1]? := by
            have hgr : World.grownBy _ w1 (Value.slice ad pre.length cap).ownBlock := hgrow
            refine (Below.heap_setCell _ _ _ _ (by simp)).trans ((hgr.block _ (by simp; omega) ?_).trans (Below.heap_alloc _ _ _ (by omega)))
            rcases h7.2 with ⟨e, _⟩ | ⟨g, cap2, cur, e, hbg, _⟩
            · rw [e]; simp [Value.ownBlock]
            · rw [e]; simp [Value.ownBlock]; omega
          have hne : pre.length ≠ n.toNat := fun e => by
            have : ((pre.length : Int) == n) = false := by assumption
            rw [beq_eq_false_iff_ne] at this
            omega
          have hr3 := hown'.kept (grownBy_setCell' w1 w'.heap.size (.slice (some ⟨g', 0, none⟩) (pre.length + 1) cap')) (.inr (hv1.not_row (by decide) hown').symm)
          have s3 := (hB3.block _ (show w.heap.size < w'.heap.size by omega)).trans h3
          have n3 := (hB3.block _ (show w.heap.size + 1 < w'.heap.size by omega)).trans h4
          have B3 : Blw w.heap.size w (w1.setCell ⟨w'.heap.size, 0, none⟩ (.slice (some ⟨g', 0, none⟩) (pre.length + 1) cap')) := h1.trans (hB3.mono (by omega))
          have sz3 : W0.heap.size ≤ (w1.setCell ⟨w'.heap.size, 0, none⟩ (.slice (some ⟨g', 0, none⟩) (pre.length + 1) cap')).heap.size := Nat.le_trans h2 hB3.size
          generalize w1.setCell ⟨w'.heap.size, 0, none⟩ (.slice (some ⟨g', 0, none⟩) (pre.length + 1) cap') = W3 at *
          have s3b : Boxed W3 w.heap.size 62 (.int .u64 (orL s pre : Int)) := s3
          have n3b : Boxed W3 (w.heap.size + 1) 3 (.int .i64 n) := n3
          have q1 := s3b.cell
          have q2 := s3b.frozen
          have B3d : Blw w.heap.size w W3.drew := B3.trans ⟨(Below.refl _ W3).drew, fun _ => rfl⟩
          have hg3 : GOK Tryz.prog W3.drew := hg.blw B3d (Nat.le_refl _)
          have fin : ∀ w4, Blw W3.heap.size W3.drew w4 → KeepsOthers W (w4.setCell ⟨w.heap.size, 0, none⟩ (.int .u64 (Go.bits BinOp.or IntKind.u64 (orL s pre : Int) (2 ^ x)))) ∧ (w4.setCell ⟨w.heap.size, 0, none⟩ (.int .u64 (Go.bits BinOp.or IntKind.u64 (orL s pre : Int) (2 ^ x)))).heap[w'.heap.size + 1]? = W.heap[w'.heap.size + 1]? ∧
              takeI w s n W0.heap.size w'.heap.size (pre ++ [x]) (w4.setCell ⟨w.heap.size, 0, none⟩ (.int .u64 (Go.bits BinOp.or IntKind.u64 (orL s pre : Int) (2 ^ x)))) := fun w4 hb4 => by
            have e2 : ((2 : Int) ^ x) = ((2 ^ x : Nat) : Int) := by simp
            rw [e2, or_walk hol hxp, ← orL_snoc]
            have s4 : Boxed w4 w.heap.size 62 (.int .u64 (orL s pre : Int)) := (hb4.block _ (show w.heap.size < W3.heap.size by omega)).trans s3b
            have n4 : Boxed w4 (w.heap.size + 1) 3 (.int .i64 n) := (hb4.block _ (show w.heap.size + 1 < W3.heap.size by omega)).trans n3b
            have o4 : Boxed w4 w'.heap.size 32 (.slice (some ⟨g', 0, none⟩) (pre.length + 1) cap') := (hb4.block _ (show w'.heap.size < W3.heap.size by omega)).trans hv2
            have hgl : g' < W3.heap.size := by
              rcases hr3.2 with ⟨e, _⟩ | ⟨g, cap2, cur, e, _, hgb, _⟩
              · cases e
              · cases e; exact (Array.getElem?_eq_some_iff.1 hgb).1
            have r4 : w4.ownsRow W0.heap.size 3 1 (.slice (some ⟨g', 0, none⟩) (pre.length + 1) cap') (pre.length + 1) ((pre.map fun (i : Nat) => Value.int .i64 (i : Int)) ++ [Value.int .i64 (x : Int)]) := by
              refine ⟨hr3.1, ?_⟩
              rcases hr3.2 with ⟨e, _⟩ | ⟨g, cap2, cur, e, k1, hgb, k2⟩
              · cases e
              · cases e
                exact .inr ⟨g', cap', cur, rfl, k1, (hb4.block _ hgl).trans hgb, k2⟩
            refine ⟨(hk2.trans (KeepsOthers.drew W3)).trans ((keeps_blw (A := W3.drew) hb4).trans (KeepsOthers.setCell _ _ _)), (Below.heap_setCell _ _ _ _ (by simp; omega)).trans ((hb4.block _ (show w'.heap.size + 1 < W3.heap.size by omega)).trans hBe), ?_⟩
            have b4 : Blw w.heap.size w w4 := B3d.trans (hb4.mono (by omega))
            refine ⟨⟨b4.toBelow.setCell (p := ⟨w.heap.size, 0, none⟩) (Nat.le_refl _) _, fun a => (fz_set _ _ _ a).trans (b4.fz a)⟩, Nat.le_trans (Nat.le_trans sz3 hb4.size) (grownBy_setCell' w4 _ _).size, s4.set _, (Below.heap_setCell _ _ _ _ (by simp)).trans n4, by simp; omega, _, (Below.heap_setCell _ _ _ _ (by simp; omega)).trans o4, ?_⟩
            have := r4.kept (grownBy_setCell' w4 w.heap.size (.int .u64 (orL s (pre ++ [x]) : Int))) (.inr (s4.not_row (by decide) r4).symm)
            simpa using this
          gi_region_with_o (refine ⟨trivial, ?_⟩; gi_at_call 100; refine (CallsIn.inRound l (bit_calls hbt x hx64 W3.drew hg3)).mono ?_; rintro e w4 ⟨rfl, hb4⟩; have s4 : Boxed w4 w.heap.size 62 (.int .u64 (orL s pre : Int)) := (hb4.block _ (show w.heap.size < W3.heap.size by omega)).trans s3b; have q3 := s4.cell; have q4 := s4.frozen)
          all_goals (gi_wp2; exact fin w4 hb4)
      case done =>
        rintro D W hT hK hD
        rw [bitsL_compl hs] at hT
        have hnn : 0 ≤ n := by omega
        have hlen := freeL_len s
        have h5' := hT.2.2.2.2.1
        have hall : (freeL (s : Int)).take n.toNat = freeL (s : Int) := List.take_of_length_le (by omega)
        obtain ⟨h1, h2, h3, h4, h5, v, h6, h7⟩ := hT
        obtain ⟨ad, cap, rfl⟩ := ownsRow_form h7
        have k3 := h3.cell
        have k6 := h6.cell
        gi_wp2
        refine region_calm ?_
        gi_region_with_o (fail)
        all_goals gi_wp2
        all_goals refine ⟨by simp, .inl ⟨_, _, rfl, run_takeDeferred (show W.drew.heap[D]? = _ from hK), ?_⟩⟩
        all_goals refine ⟨_, res80 _ _, _, rfl, ⟨⟨h1.os, h1.tape, h1.output, Nat.le_trans h1.size (grownBy_putObj' W.drew D (.deferred none)).size, fun k hk => (World.putObj_heap_other (by omega)).trans (h1.block k hk)⟩, fun a => (fz_putObj W.drew (.deferred none) hK rfl rfl a).trans (h1.fz a)⟩, fun h => absurd h (by omega), fun _ h => absurd h (by omega), fun _ _ => ?_⟩
        all_goals rw [hall]
        all_goals exact ⟨_, rfl, ownsRow_putObj (ownsRow_base h7 (by omega)) _ hK rfl⟩
      case stop =>
        rintro D c pre W hpre ⟨rfl, pre0, x, rfl, hl, hT⟩ hK hD
        rw [bitsL_compl hs] at hpre
        have hnn : 0 ≤ n := by omega
        have hall : (freeL (s : Int)).take n.toNat = pre0 := by
          obtain ⟨r, hr⟩ := hpre
          rw [← hr, ← hl]; simp
        clear hl
        obtain ⟨h1, h2, h3, h4, h5, v, h6, h7⟩ := hT
        obtain ⟨ad, cap, rfl⟩ := ownsRow_form h7
        have k3 := h3.cell
        have k6 := h6.cell
        gi_wp2
        refine region_calm ?_
        gi_region_with_o (fail)
        all_goals gi_wp2
        all_goals refine ⟨by simp, .inl ⟨_, _, rfl, run_takeDeferred (show W.drew.heap[D]? = _ from hK), ?_⟩⟩
        all_goals refine ⟨_, res80 _ _, _, rfl, ⟨⟨h1.os, h1.tape, h1.output, Nat.le_trans h1.size (grownBy_putObj' W.drew D (.deferred none)).size, fun k hk => (World.putObj_heap_other (by omega)).trans (h1.block k hk)⟩, fun a => (fz_putObj W.drew (.deferred none) hK rfl rfl a).trans (h1.fz a)⟩, fun h => absurd h (by omega), fun _ h => absurd h (by omega), fun _ _ => ?_⟩
        all_goals rw [hall]
        all_goals exact ⟨_, rfl, ownsRow_putObj (ownsRow_base h7 (by omega)) _ hK rfl⟩
theorem res_take {W : World} {im : Nat → Prop} {v : Value} {l : List Int} {s e : Int} {cs : List Value} (h1 : v = pk false cs) (h2 : Rd W im (.list .i) l cs) (hs : inKind .u64 s = true) (he : inKind .i64 e = true) :
    RV ⟨fun _ => none, W, im⟩ (resAV [.list .i, .int .u64, .i] (l, s, e, ())) (.tuple #[v, .int .u64 s, .int .i64 e]) := by
  refine ⟨[v, .int .u64 s, .int .i64 e], rfl, cs, _, ?_, h2, [.int .u64 s], _, rfl, Rd.int.2 ⟨rfl, hs⟩, [.int .i64 e], _, rfl, Rd.int.2 ⟨rfl, he⟩, rfl⟩
  rw [h1]; rfl
theorem row_ints {W : World} {base : Nat} {v : Value} {l : List Nat} (h : W.ownsRow base 3 1 v l.length (l.map fun (i : Nat) => Value.int .i64 (i : Int))) (hl : ∀ i ∈ l, i < 64) (hn : l.length ≤ 64) (im : Nat → Prop) (him : ∀ k, base ≤ k → k < W.heap.size → im k) :
    ∃ cs, v = pk false cs ∧ Rd W im (.list .i) (l.map fun (i : Nat) => (i : Int)) cs := by
  have hb : List.length (l.map fun (i : Nat) => (i : Int)) * Ty.bytes .i ≤ top := by
    rw [List.length_map]
    have : (64 : Nat) * Ty.bytes .i ≤ top := by decide
    exact Nat.le_trans (Nat.mul_le_mul_right _ hn) this
  rcases h.2 with ⟨rfl, h0⟩ | ⟨g, cap, cur, rfl, hbg, hg, hc, hcm, hsz, htk⟩
  · refine ⟨[.slice none 0 0], rfl, Rd.list.2 ⟨hb, .inl ⟨rfl, ?_⟩⟩⟩
    rw [List.length_eq_zero_iff.1 h0]; rfl
  · refine ⟨[.slice (some ⟨g, 0, none⟩) l.length cap], rfl, Rd.list.2 ⟨hb, .inr ⟨⟨g, 0, none⟩, cap, l.map fun (i : Nat) => [Value.int .i64 (i : Int)], by rw [List.length_map], fun _ => rfl, by rw [List.length_map]; exact hc, hcm, ?_, fun _ => him g hbg (Array.getElem?_eq_some_iff.1 hg).1, ?_⟩⟩⟩
    · clear h hn hb hc htk hsz
      induction l with
      | nil => trivial
      | cons i l ih =>
        refine ⟨Rd.int.2 ⟨rfl, ?_⟩, ih fun j hj => hl j (List.mem_cons_of_mem _ hj)⟩
        have := hl i (List.mem_cons_self ..)
        rw [inKind_iff]; show -9223372036854775808 ≤ (i : Int) ∧ (i : Int) ≤ 9223372036854775807; omega
    · intro j x hj
      have hfl : (l.map fun (i : Nat) => [Value.int .i64 (i : Int)]).flatten = l.map fun (i : Nat) => Value.int .i64 (i : Int) := by
        clear h hl hn hb hc htk hsz hj
        induction l with
        | nil => rfl
        | cons i l ih => simp [ih]
      rw [hfl, ← htk] at hj
      have hj2 : cur.toList[j]? = some x := by
        rw [List.getElem?_take] at hj
        split at hj
        · exact hj
        · cases hj
      have : cur[j]? = some x := by rw [← Array.getElem?_toList]; exact hj2
      simp [World.cell?, hg, this]
theorem ok_seats_Take_of (hcn : ConOK Tryz.prog 75 c_seats_Count) (hbt : ConOK Tryz.prog 100 c_seats_bit) : ConOK Tryz.prog 80 c_seats_Take := by
  refine ⟨FnOK.of Tryz.func80 rfl (by kernel_rfl), ?_, ?_⟩
  · decide
  · intro w I x xs y hg hI hx hxy
    obtain ⟨s, n, u⟩ := x
    change Int at s; change Int at n
    match xs, hx with
    | [a, b], hx =>
      obtain ⟨⟨c1, rfl, r1⟩, ⟨c2, rfl, r2⟩, _⟩ := hx
      obtain ⟨rfl, k1⟩ := Rd.int.1 r1
      obtain ⟨rfl, k2⟩ := Rd.int.1 r2
      rw [inKind_iff] at k1 k2
      have k1 : 0 ≤ s ∧ s ≤ 18446744073709551615 := k1
      have k2 : -9223372036854775808 ≤ n ∧ n ≤ 9223372036854775807 := k2
      obtain ⟨s, rfl⟩ : ∃ m : Nat, s = (m : Int) := ⟨s.toNat, by omega⟩
      have hs : s < 18446744073709551616 := by omega
      refine Calls.mono (callsIn_wide.1 (take_in hcn hbt s hs n k2 w hg)) ?_
      rintro e W ⟨z, rfl, hb, h1, h2, h3⟩
      refine ⟨z, rfl, hb, ?_⟩
      have hy : takeW (s : Int) n = (y.1, y.2.1, y.2.2.1) := by
        have : some ((takeW (s : Int) n).1, (takeW (s : Int) n).2.1, (takeW (s : Int) n).2.2, ()) = some y := hxy
        obtain rfl := Option.some.inj this
        rfl
      obtain ⟨yl, ys, ye, yu⟩ := y
      change takeW (s : Int) n = (yl, ys, ye) at hy
      unfold takeW at hy
      have hnil : ∀ im, Rd W im (.list .i) [] [.slice none 0 0] := fun im => Rd.list.2 ⟨by simp, .inl ⟨rfl, rfl⟩⟩
      by_cases hn : n < 0
      · rw [if_pos hn] at hy
        cases hy
        rw [h1 hn]
        exact res_take rfl (hnil _) (by decide) (by decide)
      · rw [if_neg hn] at hy
        by_cases hc : 64 - cntW (s : Int) < n
        · rw [if_pos hc] at hy
          cases hy
          rw [h2 (by omega) hc]
          exact res_take rfl (hnil _) (by decide) (by decide)
        · rw [if_neg hc] at hy
          cases hy
          obtain ⟨v, rfl, hr⟩ := h3 (by omega) (by omega)
          have hl64 : ∀ i ∈ (freeL (s : Int)).take n.toNat, i < 64 := fun i hi => by
            have := List.mem_of_mem_take hi
            unfold freeL at this
            simp only [List.mem_filter, List.mem_range] at this
            exact this.1
          have hlen : ((freeL (s : Int)).take n.toNat).length ≤ 64 := by
            have h1 := freeL_len s
            have h2 := List.length_take_le n.toNat (freeL (s : Int))
            have h3 := (cntW_le (s : Int)).1
            have h4 : ((freeL (s : Int)).take n.toNat).length ≤ (freeL (s : Int)).length := by rw [List.length_take]; omega
            omega
          obtain ⟨cs, e1, e2⟩ := row_ints hr hl64 hlen (fun k => k < W.heap.size ∧ (k < w.heap.size → I k)) (fun k a b => ⟨b, fun h => absurd h (by omega)⟩)
          have := orL_lt hs _ hl64
          refine res_take e1 e2 ?_ (by decide)
          rw [inKind_iff]; show 0 ≤ ((orL s _ : Nat) : Int) ∧ ((orL s _ : Nat) : Int) ≤ 18446744073709551615
          omega
end Go.Proofs.YtmjobjaajnjgjaaGreatDoor
end

section
namespace Go.Proofs.YtmjobjaajnjgjaaGreatDoor
open Go Go.Co Go.Co.N Go.Proofs Go.RowKit Go.Shelf Go.Lib
attribute [local go_sem] Oper.semAt_some

theorem fz_append2 {P : Program} {w : World} {base : Nat} {t ty e : TypeId} {i : TypeInfo} {z : Value} (ht : P.underlying t = some (.slice e)) (hi : P.info? e = some i) (hz : i.zero = some z)
    {v : Value} {n : Nat} {xs : List Value} (hown : w.ownsRow base e i.size v n xs) (hv : v ≠ .slice none 0 0) {a : Addr} {m c : Nat} {news : List Value} (hl : news.length = m * i.size) (hnews : ∀ j u, news[j]? = some u → w.cell? (a.add j) = some u) (h1 : ∀ u ∈ news, u.oneCell' = true)
    (h63 : n + m ≤ maxLen) (hbytes : (n + m) * i.bytes ≤ 140737488355328) {v' : Value} {w' : World} (hrun : (Builtin.append_ #[t, t] ty #[v, .slice (some a) m c]).run P w = .ok v' w') (b : Addr) : w'.frozen? b = w.frozen? b := by
  by_cases hm : 0 < m
  · exact fz_append ht hi hz hown hl hnews h1 hm h63 hbytes hrun b
  · rcases hown.2 with ⟨rfl, rfl⟩ | ⟨g, cap, cur, rfl, _, hg, hnc, _, hcs, _⟩
    · exact absurd rfl hv
    · have hroom : n + m ≤ cap := by omega
      have hfit : n * i.size + news.length ≤ cur.size := by rw [hl, hcs, ← Nat.add_mul]; exact Nat.mul_le_mul_right _ hroom
      rw [run_append_room (P := P) w t ty e i ht hi g n cap cur hg a m c news hl hnews h1 hroom hfit] at hrun
      cases hrun
      by_cases hb : b.block = g
      · have := setRow_heap w g cur (cur.toList.take (n * i.size) ++ news ++ cur.toList.drop (n * i.size + news.length)).toArray e (0, 0) hg
        unfold World.frozen?
        rw [hb, this, hg]
      · exact frozen_same (setRow_other w g b.block _ hb)
theorem wpListIn_append_fz2 {F : Fence} {k : Nat} {P : Program} (w : World) {ops : Array Oper} {rest : List Oper} {o : Oper} {a : Act} {Q : Exit → Act → World → Prop}
    (hg : o.guard = none) (s x : Operand) (t : TypeId) (hop : o.op = Op.call { callee := Callee.builtin Builtin.append, args := #[s, x], argTypes := #[t, t] })
    (base : Nat) (e : TypeId) (i : TypeInfo) (z : Value) (size bytes : Nat) (h1 : P.underlying t = some (.slice e)) (h2 : P.info? e = some i) (h3 : i.zero = some z) (h4 : i.size = size) (h5 : i.bytes = bytes) (h6 : z.cells.size = size) (h7 : 0 < size)
    (v : Value) (n : Nat) (xs : List Value) (hs : a.eval s = v) (hown : w.ownsRow base e size v n xs) (hv : v ≠ .slice none 0 0) (ad : Addr) (m c : Nat) (news : List Value) (hx : a.eval x = .slice (some ad) m c) (hn : news.length = m * size)
    (hc : ∀ j u, news[j]? = some u → w.cell? (ad.add j) = some u) (h1c : ∀ u ∈ news, u.oneCell' = true) (b1 : n + m ≤ maxLen) (b2 : (n + m) * bytes ≤ 140737488355328) (b3 : base ≤ w.heap.size)
    (hK : ∀ v' w', w'.ownsRow base e size v' (n + m) (xs ++ news) → w.grownBy w' v.ownBlock → (v' = .slice none 0 0 ↔ v = .slice none 0 0 ∧ m = 0) → (∀ b, w'.frozen? b = w.frozen? b) → wpListIn F k P ops Q rest (a.put o.dst v') w') :
    wpListIn F k P ops Q (o :: rest) a w := by
  refine wpListIn_plain hg fun K hK' => ?_
  obtain ⟨v', w', hrun, r1, r2, r3⟩ := run_append_own (P := P) w base t o.type e i z size bytes h1 h2 h3 h4 h5 h6 h7 v n xs hown ad m c news hn hc h1c b1 b2 b3
  subst h4; subst h5
  have hz := fun b => fz_append2 h1 h2 h3 hown hv hn hc h1c b1 b2 hrun b
  unfold Oper.wpIn
  refine ⟨?_, ?_⟩
  · simp [Oper.about, hop, resolve, Target.leads, Sem.run_pure]
  · rw [Oper.semAt_plain F _ _ (by rw [hop]; intro c hc'; cases hc')]
    simp [execOp, hop, resolve, invoke, builtin, hs, hx, hrun, Result.andThen]
    exact hK' _ _ (hK v' w' r1 r2 r3 hz)
set_option maxHeartbeats 2000000 in
set_option maxRecDepth 100000 in
theorem clone_in (ad : Addr) (n c : Nat) (vs : List Value) (w : World) (hn : vs.length = n) (hbig : n * 8 ≤ 140737488355328) (h1 : ∀ u ∈ vs, u.oneCell' = true) (hc : ∀ j u, vs[j]? = some u → w.cell? (ad.add j) = some u) :
    CallsIn Fence.wide 0 Tryz.prog 15 #[.slice (some ad) n c] w fun e w' => ∃ v', e = .returned v' ∧ w'.ownsRow w.heap.size 3 1 v' n vs ∧ Blw w.heap.size w w' := by
  obtain ⟨i0, hi, hz0, hz1, hz2⟩ := info_parts (P := Tryz.prog) (e := 3) (z := .int .i64 0) (size := 1) (bytes := 8) (by kernel_rfl)
  have hmx : Tryz.prog.follows .mixedOrders = true := by kernel_rfl
  have q32 : ∀ (w : World) (a : Option Addr) (n c n' c' : Nat), (binOp .eql 32 (.slice a n c) (.slice none n' c')).run Tryz.prog w = .ok (.bool a.isNone) w := fun w a n c n' c' => Lib.run_eql_slice_nil w _ _ a n c n' c' Tryz.underlying32
  have A : Aside (∀ j u, vs[j]? = some u → w.cell? (ad.add j) = some u) := hc
  clear hc
  refine callsIn_of_wp Tryz.func15 rfl trivial ?_ rfl
  simp only [Tryz.ntmps15, List.size_toArray, List.length_cons, List.length_nil, Nat.reduceAdd, Nat.reduceSub, Array.replicate_succ, Array.replicate_zero, List.push_toArray, List.append_toArray, List.nil_append, List.cons_append]
  gi_wp2_with (gi_at_builtin; refine wpListIn_append_fz2 _ rfl _ _ 32 rfl w.heap.size 3 i0 (.int .i64 0) 1 8 Tryz.underlying32 hi hz0 hz1 hz2 rfl (by decide) _ _ _ rfl (World.ownsRow_made w #[] 0 (Nat.le_refl _) (Nat.zero_le _) rfl) (fun h => (by have h : Value.slice (some ⟨w.heap.size, 0, none⟩) 0 0 = .slice none 0 0 := h; cases h)) ad n c vs rfl ?qc1 ?qc2 ?qc3 ?qc4 ?qc5 ?qc6 ?_)
  case qc1 => omega
  case qc2 => intro j u hj; exact Lib.cell?_alloc_some _ (A.out j u hj)
  case qc3 => exact h1
  case qc4 => unfold maxLen; omega
  case qc5 => omega
  case qc6 => simp
  intro v' w1 hown hgrow hnil hfz
  gi_wp2
  go_ret
  refine ⟨v', rfl, by simpa using hown, ⟨?_, fun a => ?_⟩⟩
  · exact ((Below.refl _ w).alloc (Nat.le_refl _) _).grown hgrow (by simp) (by intro k hk; simp [Value.ownBlock] at hk; omega)
  · exact (hfz a).trans (fz_alloc _ _ (fun _ _ _ h => by cases h; rfl) a)
set_option maxHeartbeats 1000000 in
theorem clone_nil_in (n c : Nat) (w : World) : CallsIn Fence.wide 0 Tryz.prog 15 #[.slice none n c] w fun e w' => e = .returned (.slice none 0 0) ∧ w' = w := by
  have q32 : ∀ (w : World) (a : Option Addr) (n c n' c' : Nat), (binOp .eql 32 (.slice a n c) (.slice none n' c')).run Tryz.prog w = .ok (.bool a.isNone) w := fun w a n c n' c' => Lib.run_eql_slice_nil w _ _ a n c n' c' Tryz.underlying32
  refine callsIn_of_wp Tryz.func15 rfl trivial ?_ rfl
  simp only [Tryz.ntmps15, List.size_toArray, List.length_cons, List.length_nil, Nat.reduceAdd, Nat.reduceSub, Array.replicate_succ, Array.replicate_zero, List.push_toArray, List.append_toArray, List.nil_append, List.cons_append]
  gi_wp2
  go_ret
  exact ⟨rfl, rfl⟩
theorem row_rd {W W2 : World} {im2 : Nat → Prop} {base : Nat} {v : Value} {l : List Int} {css : List (List Value)} (h : W.ownsRow base 3 1 v l.length css.flatten) (hb : l.length * 8 ≤ 140737488355328) (hall : All2 (Rd W2 im2 .i) l css) (im : Nat → Prop) (him : ∀ k, base ≤ k → k < W.heap.size → im k) :
    ∃ cs, v = pk false cs ∧ Rd W im (.list .i) l cs := by
  have hb : List.length l * Ty.bytes .i ≤ top := hb
  rcases h.2 with ⟨rfl, h0⟩ | ⟨g, cap, cur, rfl, hbg, hg, hc, hcm, hsz, htk⟩
  · refine ⟨[.slice none 0 0], rfl, Rd.list.2 ⟨hb, .inl ⟨rfl, ?_⟩⟩⟩
    exact List.length_eq_zero_iff.1 h0
  · refine ⟨[.slice (some ⟨g, 0, none⟩) l.length cap], rfl, Rd.list.2 ⟨hb, .inr ⟨⟨g, 0, none⟩, cap, css, rfl, fun _ => rfl, hc, hcm, hall.mono fun x c hr => Rd.nolist .i x c rfl hr, fun _ => him g hbg (Array.getElem?_eq_some_iff.1 hg).1, ?_⟩⟩⟩
    intro j x hj
    rw [← htk] at hj
    have hj2 : cur.toList[j]? = some x := by
      rw [List.getElem?_take] at hj
      split at hj
      · exact hj
      · cases hj
    have : cur[j]? = some x := by rw [← Array.getElem?_toList]; exact hj2
    simp [World.cell?, hg, this]
theorem ok_slices_Clone : ConOK Tryz.prog 15 c_slices_Clone := by
  refine ⟨FnOK.of Tryz.func15 rfl (by kernel_rfl), ?_, ?_⟩
  · decide
  · intro w I x xs y hg hI hx hxy
    obtain ⟨l, u⟩ := x
    change List Int at l
    match xs, hx with
    | [a], hx =>
      obtain ⟨⟨cs, rfl, r⟩, _⟩ := hx
      have hy : y = (l, ()) := by
        have : some (l, ()) = some y := hxy
        exact (Option.some.inj this).symm
      subst hy
      obtain ⟨hb, r⟩ := Rd.list.1 r
      have hb : l.length * 8 ≤ 140737488355328 := hb
      rcases r with ⟨rfl, rfl⟩ | ⟨a, cap, css, rfl, hs, hle, hcm, hall, him, hc⟩
      · refine Calls.mono (callsIn_wide.1 (clone_nil_in 0 0 w)) ?_
        rintro e W ⟨rfl, rfl⟩
        exact ⟨_, rfl, Blw.refl _ _, [.slice none 0 0], rfl, Rd.list.2 ⟨by simp, .inl ⟨rfl, rfl⟩⟩⟩
      · have hfl := flatten_len (n := 1) (show ∀ c ∈ css, c.length = 1 from hall.lens)
        have hlen : css.flatten.length = l.length := by rw [hfl, hall.length]; omega
        have hcells : ∀ j u, css.flatten[j]? = some u → w.cell? (a.add j) = some u := fun j u hu => by
          have hne : l ≠ [] := fun h => by
            have := (List.getElem?_eq_some_iff.1 hu).1
            rw [hlen, h] at this
            simp at this
          have h2 := hc j u hu
          have h3 := hs hne
          obtain ⟨bk, of, sp⟩ := a
          simp only at h3
          subst h3
          rw [Addr.add_lit]; exact h2
        refine Calls.mono (callsIn_wide.1 (clone_in a l.length cap css.flatten w hlen hb hall.ones hcells)) ?_
        rintro e W ⟨v', rfl, hown, hblw⟩
        obtain ⟨cs', h1, h2⟩ := row_rd hown hb hall (fun k => k < W.heap.size ∧ (k < w.heap.size → I k)) (fun k h1 h2 => ⟨h2, fun h3 => absurd h3 (by omega)⟩)
        exact ⟨v', rfl, hblw, cs', h1, h2⟩
/-- A new row alone is memory of its own. -/
theorem row_fresh {P : Program} {w W W2 : World} {I : Nat → Prop} {hg : GOK P w} {im2 : Nat → Prop} {e : TypeId} {v : Value} {l : List Int} {css : List (List Value)} (h : W.ownsRow w.heap.size e 1 v l.length css.flatten) (hb : l.length * 8 ≤ 140737488355328)
    (hall : All2 (Rd W2 im2 .i) l css) (hblw : Blw w.heap.size w W) (_ : ∀ k, I k → k < w.heap.size) : ∃ (E' : Env) (base : Nat) (m' : Mem) (U' : Nat → Prop), E'.w = W ∧ MR ⟨P, w, I, hg⟩ E' m' U' ∧
      (∀ i, i < frNL [.list .i] → m' (base + i) = nthB (frRL [.list .i] (l, ())) i) ∧ RV E' (frAV [.list .i] (l, ()) base) v := by
  have hb : List.length l * Ty.bytes .i ≤ top := hb
  have hsz : w.heap.size ≤ W.heap.size := hblw.toBelow.size
  have main : ∀ bt : BT, (bt = .nilslab .i ∨ ∃ g cap len, bt = .slab g .i cap len ∧ w.heap.size ≤ g ∧ g < W.heap.size) → RM ⟨fun b => if b = 0 then some bt else none, W, fun k => k < w.heap.size ∧ I k⟩ 0 (.slab .i l) → (∃ cs, v = pk false cs ∧ RC ⟨fun b => if b = 0 then some bt else none, W, fun k => k < w.heap.size ∧ I k⟩ (.sl 0) cs) →
      ∃ (E' : Env) (base : Nat) (m' : Mem) (U' : Nat → Prop), E'.w = W ∧ MR ⟨P, w, I, hg⟩ E' m' U' ∧ (∀ i, i < frNL [.list .i] → m' (base + i) = nthB (frRL [.list .i] (l, ())) i) ∧ RV E' (frAV [.list .i] (l, ()) base) v := by
    intro bt hbt hrm hrv
    refine ⟨⟨fun b => if b = 0 then some bt else none, W, fun k => k < w.heap.size ∧ I k⟩, 0, fun b => if b = 0 then .slab .i l else .none, fun b => b = 0, rfl, ⟨hblw, fun b => ?_, fun k hk => ?_, fun b b' c c' k h1 h2 h3 h4 _ _ => ?_, fun k hk => ?_, fun k hk _ => hk.2, fun b c hbc => ?_⟩, fun i hi => ?_, hrv⟩
    · by_cases h0 : b = 0
      · subst h0; exact hrm
      · simp only [if_neg h0]; trivial
    · obtain ⟨b, c, h1, h2, h3⟩ := hk
      by_cases h0 : b = 0
      · subst h0
        simp only [if_true, Option.some.injEq] at h2
        subst h2
        rcases hbt with rfl | ⟨g, cap, len, rfl, h4, h5⟩
        · cases h3
        · cases h3
          exact ⟨h5, h4, fun hn => absurd hn.1 (by omega)⟩
      · simp only [if_neg h0] at h1
        exact h1.elim
    · by_cases h0 : b = 0
      · by_cases h0' : b' = 0
        · rw [h0, h0']
        · simp only [if_neg h0'] at h2; exact h2.elim
      · simp only [if_neg h0] at h1; exact h1.elim
    · exact Nat.lt_of_lt_of_le hk.1 hsz
    · by_cases h0 : b = 0
      · exact h0
      · simp only [if_neg h0] at hbc; cases hbc
    · have : i = 0 := by simp only [frNL, frN, frNF] at hi; omega
      subst this
      rfl
  rcases h.2 with ⟨rfl, h0⟩ | ⟨g, cap, cur, rfl, hbg, hg2, hc, hcm, hs, htk⟩
  · have hl : l = [] := List.length_eq_zero_iff.1 h0
    exact main (.nilslab .i) (.inl rfl) ⟨hb, .inl ⟨by simp, hl⟩⟩ ⟨[.slice none 0 0], rfl, .inl ⟨.i, by simp, rfl⟩⟩
  · have hlt : g < W.heap.size := (Array.getElem?_eq_some_iff.1 hg2).1
    refine main (.slab g .i cap l.length) (.inr ⟨g, cap, l.length, rfl, hbg, hlt⟩) ⟨hb, .inr ⟨g, cap, cur, e, css, cur.toList.drop (l.length * 1), by simp, hg2, ?_, hc, hcm, hall.mono fun x c hr => Rd.nolist .i x c rfl hr, ?_⟩⟩ ⟨[.slice (some ⟨g, 0, none⟩) l.length cap], rfl, .inr ⟨g, .i, cap, l.length, by simp, rfl⟩⟩
    · exact hs
    · rw [← htk]; simp
theorem fok_slices_Clone : FConOK Tryz.prog 15 c_slices_Clone := by
  refine ⟨FnOK.of Tryz.func15 rfl (by kernel_rfl), ?_, ?_, ?_⟩
  · decide
  · decide
  · intro w I hg x xs y hI hx hxy
    obtain ⟨l, u⟩ := x
    change List Int at l
    match xs, hx with
    | [a], hx =>
      obtain ⟨⟨cs, rfl, r⟩, _⟩ := hx
      have hy : y = (l, ()) := by
        have : some (l, ()) = some y := hxy
        exact (Option.some.inj this).symm
      subst hy
      obtain ⟨hb, r⟩ := Rd.list.1 r
      have hb : l.length * 8 ≤ 140737488355328 := hb
      rcases r with ⟨rfl, rfl⟩ | ⟨a, cap, css, rfl, hs, hle, hcm, hall, him, hc⟩
      · refine Calls.mono (callsIn_wide.1 (clone_nil_in 0 0 w)) ?_
        rintro e W ⟨rfl, rfl⟩
        exact ⟨_, rfl, row_fresh (e := 3) (css := []) (W2 := W) (im2 := I) ⟨rfl, .inl ⟨rfl, rfl⟩⟩ (by simp) trivial (Blw.refl _ _) hI⟩
      · have hfl := flatten_len (n := 1) (show ∀ c ∈ css, c.length = 1 from hall.lens)
        have hlen : css.flatten.length = l.length := by rw [hfl, hall.length]; omega
        have hcells : ∀ j u, css.flatten[j]? = some u → w.cell? (a.add j) = some u := fun j u hu => by
          have hne : l ≠ [] := fun h => by
            have := (List.getElem?_eq_some_iff.1 hu).1
            rw [hlen, h] at this
            simp at this
          have h2 := hc j u hu
          have h3 := hs hne
          obtain ⟨bk, of, sp⟩ := a
          simp only at h3
          subst h3
          rw [Addr.add_lit]; exact h2
        refine Calls.mono (callsIn_wide.1 (clone_in a l.length cap css.flatten w hlen hb hall.ones hcells)) ?_
        rintro e W ⟨v', rfl, hown, hblw⟩
        exact ⟨v', rfl, row_fresh hown hb hall hblw hI⟩
end Go.Proofs.YtmjobjaajnjgjaaGreatDoor
end

section
namespace Go.Proofs.YtmjobjaajnjgjaaGreatDoor
open Go Go.Co Go.Co.N Go.Proofs
noncomputable def L_key_Good : List (Nat × LD) := []
noncomputable def Ls_key_Good : List (Nat × List (Nat × LD)) := []
noncomputable def B_key_Good : Bodies := []
theorem run_key_Good (x : denL [(.st .key)]) : run [] L_key_Good Ls_key_Good B_key_Good Tryz.f81 [(.st .key)] [.bool] x = g_key_Good x := by kernel_rfl
theorem ok_key_Good : ConOK Tryz.prog 81 c_key_Good := con_ok (ConsOK.nil) L_key_Good Ls_key_Good (B := B_key_Good) (BodiesOK.nil) Tryz.func81 rfl fun x y hf h => (run_key_Good x).trans (eq_key_Good x y hf h)
noncomputable def L_ref02_Good : List (Nat × LD) := []
noncomputable def Ls_ref02_Good : List (Nat × List (Nat × LD)) := []
noncomputable def B_ref02_Good : Bodies := []
theorem run_ref02_Good (x : denL [(.st .key)]) : run [] L_ref02_Good Ls_ref02_Good B_ref02_Good Tryz.f87 [(.st .key)] [.bool] x = g_ref02_Good x := by kernel_rfl
theorem ok_ref02_Good : ConOK Tryz.prog 87 c_ref02_Good := con_ok (ConsOK.nil) L_ref02_Good Ls_ref02_Good (B := B_ref02_Good) (BodiesOK.nil) Tryz.func87 rfl fun x y hf h => (run_ref02_Good x).trans (eq_ref02_Good x y hf h)
noncomputable def L_ref02_Ahead : List (Nat × LD) := [(6, ⟨⟨[(1, .hole .i), (2, .ptr 0 []), (4, .ptr 1 []), (6, .hole .i)], [(0, (.st .key), .hole (.st .key)), (1, (.st .key), .hole (.st .key))], []⟩, [(.exit 0, ⟨[(2, .ptr 0 []), (4, .ptr 1 [])], [(0, (.st .key), .hole (.st .key)), (1, (.st .key), .hole (.st .key))], []⟩)], 10, []⟩)]
noncomputable def Ls_ref02_Ahead : List (Nat × List (Nat × LD)) := []
noncomputable def B_ref02_Ahead : Bodies := []
theorem run_ref02_Ahead (x : denL [(.st .key), .i]) : run [(87, c_ref02_Good)] L_ref02_Ahead Ls_ref02_Ahead B_ref02_Ahead Tryz.f67 [(.st .key), .i] [(.st .key), .i] x = g_ref02_Ahead x := by kernel_rfl
theorem ok_ref02_Ahead : ConOK Tryz.prog 67 c_ref02_Ahead := con_ok (ConsOK.cons ok_ref02_Good (ConsOK.nil)) L_ref02_Ahead Ls_ref02_Ahead (B := B_ref02_Ahead) (BodiesOK.nil) Tryz.func67 rfl fun x y hf h => (run_ref02_Ahead x).trans (eq_ref02_Ahead x y hf h)
noncomputable def L_key_Ahead : List (Nat × LD) := []
noncomputable def Ls_key_Ahead : List (Nat × List (Nat × LD)) := []
noncomputable def B_key_Ahead : Bodies := []
theorem run_key_Ahead (x : denL [(.st .key), .i]) : run [(81, c_key_Good)] L_key_Ahead Ls_key_Ahead B_key_Ahead Tryz.f78 [(.st .key), .i] [(.st .key), .i] x = g_key_Ahead x := by kernel_rfl
theorem ok_key_Ahead : ConOK Tryz.prog 78 c_key_Ahead := con_ok (ConsOK.cons ok_key_Good (ConsOK.nil)) L_key_Ahead Ls_key_Ahead (B := B_key_Ahead) (BodiesOK.nil) Tryz.func78 rfl fun x y hf h => (run_key_Ahead x).trans (eq_key_Ahead x y hf h)
noncomputable def L_key_Seal : List (Nat × LD) := []
noncomputable def Ls_key_Seal : List (Nat × List (Nat × LD)) := []
noncomputable def B_key_Seal : Bodies := []
theorem run_key_Seal (x : denL [(.st .key), (.st .key)]) : run [(81, c_key_Good)] L_key_Seal Ls_key_Seal B_key_Seal Tryz.f54 [(.st .key), (.st .key)] [(.st .box), .i] x = g_key_Seal x := by kernel_rfl
theorem ok_key_Seal : ConOK Tryz.prog 54 c_key_Seal := con_ok (ConsOK.cons ok_key_Good (ConsOK.nil)) L_key_Seal Ls_key_Seal (B := B_key_Seal) (BodiesOK.nil) Tryz.func54 rfl fun x y hf h => (run_key_Seal x).trans (eq_key_Seal x y hf h)
noncomputable def L_ratchet_Check : List (Nat × LD) := [(3, ⟨⟨[(3, .mp 1), (7, .hole (.arr 21 (.st .key))), (8, .hole .i)], [], [(1, .i, .i)]⟩, [(.ret, ⟨[(2, .hole .i)], [], []⟩), (.exit 0, ⟨[], [], []⟩)], 11, []⟩)]
noncomputable def Ls_ratchet_Check : List (Nat × List (Nat × LD)) := []
noncomputable def B_ratchet_Check : Bodies := []
theorem run_ratchet_Check (x : denL [(.arr 21 (.st .key))]) : run [(81, c_key_Good)] L_ratchet_Check Ls_ratchet_Check B_ratchet_Check Tryz.f71 [(.arr 21 (.st .key))] [.i] x = g_ratchet_Check x := by kernel_rfl
theorem ok_ratchet_Check : ConOK Tryz.prog 71 c_ratchet_Check := con_ok (ConsOK.cons ok_key_Good (ConsOK.nil)) L_ratchet_Check Ls_ratchet_Check (B := B_ratchet_Check) (BodiesOK.nil) Tryz.func71 rfl fun x y hf h => (run_ratchet_Check x).trans (eq_ratchet_Check x y hf h)
noncomputable def L_ref10_Check : List (Nat × LD) := [(7, ⟨⟨[(1, .ptr 0 []), (3, .hole .i), (4, .hole .i)], [(0, (.arr 21 (.st .key)), .hole (.arr 21 (.st .key)))], []⟩, [(.ret, ⟨[(2, .hole .i)], [], []⟩), (.exit 2, ⟨[(1, .ptr 0 []), (3, .hole .i)], [(0, (.arr 21 (.st .key)), .hole (.arr 21 (.st .key)))], []⟩)], 10, []⟩), (2, ⟨⟨[(1, .ptr 0 []), (3, .hole .i)], [(0, (.arr 21 (.st .key)), .hole (.arr 21 (.st .key)))], []⟩, [(.ret, ⟨[(2, .hole .i)], [], []⟩), (.exit 0, ⟨[], [], []⟩)], 20, []⟩)]
noncomputable def Ls_ref10_Check : List (Nat × List (Nat × LD)) := []
noncomputable def B_ref10_Check : Bodies := []
theorem run_ref10_Check (x : denL [(.arr 21 (.st .key))]) : run [(87, c_ref02_Good)] L_ref10_Check Ls_ref10_Check B_ref10_Check Tryz.f61 [(.arr 21 (.st .key))] [.i] x = g_ref10_Check x := by kernel_rfl
theorem ok_ref10_Check : ConOK Tryz.prog 61 c_ref10_Check := con_ok (ConsOK.cons ok_ref02_Good (ConsOK.nil)) L_ref10_Check Ls_ref10_Check (B := B_ref10_Check) (BodiesOK.nil) Tryz.func61 rfl fun x y hf h => (run_ref10_Check x).trans (eq_ref10_Check x y hf h)
noncomputable def L_ratchet_free : List (Nat × LD) := [(6, ⟨⟨[(1, .hole .i), (2, .hole .i), (19, .hole (.arr 21 (.st .key))), (20, .hole .i)], [], []⟩, [(.ret, ⟨[(6, .hole .bool)], [], []⟩), (.exit 0, ⟨[], [], []⟩)], 11, []⟩)]
noncomputable def Ls_ratchet_free : List (Nat × List (Nat × LD)) := []
noncomputable def B_ratchet_free : Bodies := []
theorem run_ratchet_free (x : denL [(.arr 21 (.st .key)), .i, .i]) : run [] L_ratchet_free Ls_ratchet_free B_ratchet_free Tryz.f77 [(.arr 21 (.st .key)), .i, .i] [.bool] x = g_ratchet_free x := by kernel_rfl
theorem ok_ratchet_free : ConOK Tryz.prog 77 c_ratchet_free := con_ok (ConsOK.nil) L_ratchet_free Ls_ratchet_free (B := B_ratchet_free) (BodiesOK.nil) Tryz.func77 rfl fun x y hf h => (run_ratchet_free x).trans (eq_ratchet_free x y hf h)
noncomputable def L_ratchet_LeafAt : List (Nat × LD) := []
noncomputable def Ls_ratchet_LeafAt : List (Nat × List (Nat × LD)) := []
noncomputable def B_ratchet_LeafAt : Bodies := []
theorem run_ratchet_LeafAt (x : denL [(.st .entry), .i]) : run [(78, c_key_Ahead)] L_ratchet_LeafAt Ls_ratchet_LeafAt B_ratchet_LeafAt Tryz.f83 [(.st .entry), .i] [(.st .key), .i] x = g_ratchet_LeafAt x := by kernel_rfl
theorem ok_ratchet_LeafAt : ConOK Tryz.prog 83 c_ratchet_LeafAt := con_ok (ConsOK.cons ok_key_Ahead (ConsOK.nil)) L_ratchet_LeafAt Ls_ratchet_LeafAt (B := B_ratchet_LeafAt) (BodiesOK.nil) Tryz.func83 rfl fun x y hf h => (run_ratchet_LeafAt x).trans (eq_ratchet_LeafAt x y hf h)
noncomputable def L_ref10_LeafAt : List (Nat × LD) := []
noncomputable def Ls_ref10_LeafAt : List (Nat × List (Nat × LD)) := []
noncomputable def B_ref10_LeafAt : Bodies := []
theorem run_ref10_LeafAt (x : denL [(.st .entry), .i]) : run [] L_ref10_LeafAt Ls_ref10_LeafAt B_ref10_LeafAt Tryz.f92 [(.st .entry), .i] [(.st .key), .i] x = g_ref10_LeafAt x := by kernel_rfl
theorem ok_ref10_LeafAt : ConOK Tryz.prog 92 c_ref10_LeafAt := con_ok (ConsOK.nil) L_ref10_LeafAt Ls_ref10_LeafAt (B := B_ref10_LeafAt) (BodiesOK.nil) Tryz.func92 rfl fun x y hf h => (run_ref10_LeafAt x).trans (eq_ref10_LeafAt x y hf h)
noncomputable def L_bits_OnesCount32 : List (Nat × LD) := []
noncomputable def Ls_bits_OnesCount32 : List (Nat × List (Nat × LD)) := []
noncomputable def B_bits_OnesCount32 : Bodies := []
theorem run_bits_OnesCount32 (x : denL [(.int .u32)]) : run [] L_bits_OnesCount32 Ls_bits_OnesCount32 B_bits_OnesCount32 Tryz.f50 [(.int .u32)] [.i] x = g_bits_OnesCount32 x := by kernel_rfl
theorem ok_bits_OnesCount32 : ConOK Tryz.prog 50 c_bits_OnesCount32 := con_ok (ConsOK.nil) L_bits_OnesCount32 Ls_bits_OnesCount32 (B := B_bits_OnesCount32) (BodiesOK.nil) Tryz.func50 rfl fun x y hf h => (run_bits_OnesCount32 x).trans (eq_bits_OnesCount32 x y hf h)
noncomputable def L_ratchet_Turn : List (Nat × LD) := [(8, ⟨⟨[(1, .hole (.int .u32)), (2, .hole .i), (3, .ptr 0 []), (6, .ptr 1 []), (31, .hole .i)], [(0, (.arr 21 (.st .key)), .hole (.arr 21 (.st .key))), (1, (.arr 21 (.st .key)), .hole (.arr 21 (.st .key)))], []⟩, [(.ret, ⟨[(6, .ptr 1 []), (7, .hole .i), (8, .hole .i)], [(1, (.arr 21 (.st .key)), .hole (.arr 21 (.st .key)))], []⟩), (.exit 1, ⟨[(2, .hole .i), (3, .ptr 0 []), (6, .ptr 1 [])], [(0, (.arr 21 (.st .key)), .hole (.arr 21 (.st .key))), (1, (.arr 21 (.st .key)), .hole (.arr 21 (.st .key)))], []⟩)], 11, []⟩)]
noncomputable def Ls_ratchet_Turn : List (Nat × List (Nat × LD)) := []
noncomputable def B_ratchet_Turn : Bodies := []
theorem run_ratchet_Turn (x : denL [(.arr 21 (.st .key)), (.int .u32), .i]) : run [(71, c_ratchet_Check), (50, c_bits_OnesCount32), (77, c_ratchet_free), (78, c_key_Ahead)] L_ratchet_Turn Ls_ratchet_Turn B_ratchet_Turn Tryz.f51 [(.arr 21 (.st .key)), (.int .u32), .i] [(.arr 21 (.st .key)), .i, .i] x = g_ratchet_Turn x := by kernel_rfl
theorem ok_ratchet_Turn : ConOK Tryz.prog 51 c_ratchet_Turn := con_ok (ConsOK.cons ok_ratchet_Check (ConsOK.cons ok_bits_OnesCount32 (ConsOK.cons ok_ratchet_free (ConsOK.cons ok_key_Ahead (ConsOK.nil))))) L_ratchet_Turn Ls_ratchet_Turn (B := B_ratchet_Turn) (BodiesOK.nil) Tryz.func51 rfl fun x y hf h => (run_ratchet_Turn x).trans (eq_ratchet_Turn x y hf h)
noncomputable def L_ref01_In : List (Nat × LD) := [(4, ⟨⟨[(0, .hole (.int .u32)), (1, .hole .i), (5, .hole .i)], [], []⟩, [(.exit 0, ⟨[(0, .hole (.int .u32))], [], []⟩)], 10, []⟩)]
noncomputable def Ls_ref01_In : List (Nat × List (Nat × LD)) := []
noncomputable def B_ref01_In : Bodies := []
theorem run_ref01_In (x : denL [(.int .u32), .i]) : run [] L_ref01_In Ls_ref01_In B_ref01_In Tryz.f40 [(.int .u32), .i] [.bool] x = g_ref01_In x := by kernel_rfl
theorem ok_ref01_In : ConOK Tryz.prog 40 c_ref01_In := con_ok (ConsOK.nil) L_ref01_In Ls_ref01_In (B := B_ref01_In) (BodiesOK.nil) Tryz.func40 rfl fun x y hf h => (run_ref01_In x).trans (eq_ref01_In x y hf h)
noncomputable def L_ref10_count : List (Nat × LD) := [(3, ⟨⟨[(0, .hole (.int .u32)), (3, .hole .i), (4, .hole .i)], [], []⟩, [(.exit 0, ⟨[(3, .hole .i)], [], []⟩)], 10, []⟩)]
noncomputable def Ls_ref10_count : List (Nat × List (Nat × LD)) := []
noncomputable def B_ref10_count : Bodies := []
theorem run_ref10_count (x : denL [(.int .u32)]) : run [(40, c_ref01_In)] L_ref10_count Ls_ref10_count B_ref10_count Tryz.f66 [(.int .u32)] [.i] x = g_ref10_count x := by kernel_rfl
theorem ok_ref10_count : ConOK Tryz.prog 66 c_ref10_count := con_ok (ConsOK.cons ok_ref01_In (ConsOK.nil)) L_ref10_count Ls_ref10_count (B := B_ref10_count) (BodiesOK.nil) Tryz.func66 rfl fun x y hf h => (run_ref10_count x).trans (eq_ref10_count x y hf h)
noncomputable def L_ref10_Turn : List (Nat × LD) := [(4, ⟨⟨[(1, .hole (.int .u32)), (2, .hole .i), (3, .ptr 0 []), (6, .ptr 1 []), (9, .hole .i)], [(0, (.arr 21 (.st .key)), .hole (.arr 21 (.st .key))), (1, (.arr 21 (.st .key)), .hole (.arr 21 (.st .key)))], []⟩, [(.ret, ⟨[(6, .ptr 1 []), (7, .hole .i), (8, .hole .i)], [(1, (.arr 21 (.st .key)), .hole (.arr 21 (.st .key)))], []⟩), (.exit 0, ⟨[(1, .hole (.int .u32)), (2, .hole .i), (3, .ptr 0 []), (6, .ptr 1 [])], [(0, (.arr 21 (.st .key)), .hole (.arr 21 (.st .key))), (1, (.arr 21 (.st .key)), .hole (.arr 21 (.st .key)))], []⟩)], 10, []⟩), (12, ⟨⟨[(1, .hole (.int .u32)), (2, .hole .i), (3, .ptr 0 []), (6, .ptr 1 []), (10, .hole .i), (11, .hole .i)], [(0, (.arr 21 (.st .key)), .hole (.arr 21 (.st .key))), (1, (.arr 21 (.st .key)), .hole (.arr 21 (.st .key)))], []⟩, [(.ret, ⟨[(6, .ptr 1 []), (7, .hole .i), (8, .hole .i)], [(1, (.arr 21 (.st .key)), .hole (.arr 21 (.st .key)))], []⟩), (.exit 2, ⟨[(1, .hole (.int .u32)), (2, .hole .i), (3, .ptr 0 []), (6, .ptr 1 [])], [(0, (.arr 21 (.st .key)), .hole (.arr 21 (.st .key))), (1, (.arr 21 (.st .key)), .hole (.arr 21 (.st .key)))], []⟩)], 10, []⟩), (17, ⟨⟨[(1, .hole (.int .u32)), (2, .hole .i), (3, .ptr 0 []), (6, .ptr 1 []), (12, .hole .i)], [(0, (.arr 21 (.st .key)), .hole (.arr 21 (.st .key))), (1, (.arr 21 (.st .key)), .hole (.arr 21 (.st .key)))], []⟩, [(.ret, ⟨[(6, .ptr 1 []), (7, .hole .i), (8, .hole .i)], [(1, (.arr 21 (.st .key)), .hole (.arr 21 (.st .key)))], []⟩), (.exit 4, ⟨[(2, .hole .i), (3, .ptr 0 []), (6, .ptr 1 [])], [(0, (.arr 21 (.st .key)), .hole (.arr 21 (.st .key))), (1, (.arr 21 (.st .key)), .hole (.arr 21 (.st .key)))], []⟩)], 11, []⟩)]
noncomputable def Ls_ref10_Turn : List (Nat × List (Nat × LD)) := []
noncomputable def B_ref10_Turn : Bodies := []
theorem run_ref10_Turn (x : denL [(.arr 21 (.st .key)), (.int .u32), .i]) : run [(61, c_ref10_Check), (40, c_ref01_In), (66, c_ref10_count), (67, c_ref02_Ahead)] L_ref10_Turn Ls_ref10_Turn B_ref10_Turn Tryz.f37 [(.arr 21 (.st .key)), (.int .u32), .i] [(.arr 21 (.st .key)), .i, .i] x = g_ref10_Turn x := by kernel_rfl
theorem ok_ref10_Turn : ConOK Tryz.prog 37 c_ref10_Turn := con_ok (ConsOK.cons ok_ref10_Check (ConsOK.cons ok_ref01_In (ConsOK.cons ok_ref10_count (ConsOK.cons ok_ref02_Ahead (ConsOK.nil))))) L_ref10_Turn Ls_ref10_Turn (B := B_ref10_Turn) (BodiesOK.nil) Tryz.func37 rfl fun x y hf h => (run_ref10_Turn x).trans (eq_ref10_Turn x y hf h)
noncomputable def L_ref01_Node : List (Nat × LD) := []
noncomputable def Ls_ref01_Node : List (Nat × List (Nat × LD)) := []
noncomputable def B_ref01_Node : Bodies := []
theorem run_ref01_Node (x : denL [.i]) : run [] L_ref01_Node Ls_ref01_Node B_ref01_Node Tryz.f91 [.i] [.bool] x = g_ref01_Node x := by kernel_rfl
theorem ok_ref01_Node : ConOK Tryz.prog 91 c_ref01_Node := con_ok (ConsOK.nil) L_ref01_Node Ls_ref01_Node (B := B_ref01_Node) (BodiesOK.nil) Tryz.func91 rfl fun x y hf h => (run_ref01_Node x).trans (eq_ref01_Node x y hf h)
noncomputable def L_ref01_Child : List (Nat × LD) := []
noncomputable def Ls_ref01_Child : List (Nat × List (Nat × LD)) := []
noncomputable def B_ref01_Child : Bodies := []
theorem run_ref01_Child (x : denL [.i, .i]) : run [] L_ref01_Child Ls_ref01_Child B_ref01_Child Tryz.f41 [.i, .i] [.i] x = g_ref01_Child x := by kernel_rfl
theorem ok_ref01_Child : ConOK Tryz.prog 41 c_ref01_Child := con_ok (ConsOK.nil) L_ref01_Child Ls_ref01_Child (B := B_ref01_Child) (BodiesOK.nil) Tryz.func41 rfl fun x y hf h => (run_ref01_Child x).trans (eq_ref01_Child x y hf h)
noncomputable def L_ref01_Parent : List (Nat × LD) := [(7, ⟨⟨[(0, .hole .i), (3, .hole .i), (4, .hole .i)], [], []⟩, [(.ret, ⟨[(2, .hole .i)], [], []⟩), (.exit 2, ⟨[(0, .hole .i), (3, .hole .i)], [], []⟩)], 10, []⟩), (4, ⟨⟨[(0, .hole .i), (3, .hole .i)], [], []⟩, [(.ret, ⟨[(2, .hole .i)], [], []⟩), (.exit 0, ⟨[], [], []⟩)], 20, []⟩)]
noncomputable def Ls_ref01_Parent : List (Nat × List (Nat × LD)) := []
noncomputable def B_ref01_Parent : Bodies := []
theorem run_ref01_Parent (x : denL [.i]) : run [(41, c_ref01_Child)] L_ref01_Parent Ls_ref01_Parent B_ref01_Parent Tryz.f70 [.i] [.i] x = g_ref01_Parent x := by kernel_rfl
theorem ok_ref01_Parent : ConOK Tryz.prog 70 c_ref01_Parent := con_ok (ConsOK.cons ok_ref01_Child (ConsOK.nil)) L_ref01_Parent Ls_ref01_Parent (B := B_ref01_Parent) (BodiesOK.nil) Tryz.func70 rfl fun x y hf h => (run_ref01_Parent x).trans (eq_ref01_Parent x y hf h)
noncomputable def L_ref01_Leaf : List (Nat × LD) := []
noncomputable def Ls_ref01_Leaf : List (Nat × List (Nat × LD)) := []
noncomputable def B_ref01_Leaf : Bodies := []
theorem run_ref01_Leaf (x : denL [.i]) : run [] L_ref01_Leaf Ls_ref01_Leaf B_ref01_Leaf Tryz.f45 [.i] [.i] x = g_ref01_Leaf x := by kernel_rfl
theorem ok_ref01_Leaf : ConOK Tryz.prog 45 c_ref01_Leaf := con_ok (ConsOK.nil) L_ref01_Leaf Ls_ref01_Leaf (B := B_ref01_Leaf) (BodiesOK.nil) Tryz.func45 rfl fun x y hf h => (run_ref01_Leaf x).trans (eq_ref01_Leaf x y hf h)
noncomputable def L_ref01_Path : List (Nat × LD) := [(6, ⟨⟨[(2, .ptr 0 []), (4, .ptr 1 []), (5, .hole .i), (6, .hole .i)], [(0, (.arr 3 .i), .hole (.arr 3 .i)), (1, (.arr 3 .i), .hole (.arr 3 .i))], []⟩, [(.exit 0, ⟨[(2, .ptr 0 []), (4, .ptr 1 [])], [(0, (.arr 3 .i), .hole (.arr 3 .i)), (1, (.arr 3 .i), .hole (.arr 3 .i))], []⟩)], 10, []⟩)]
noncomputable def Ls_ref01_Path : List (Nat × List (Nat × LD)) := []
noncomputable def B_ref01_Path : Bodies := []
theorem run_ref01_Path (x : denL [.i]) : run [(45, c_ref01_Leaf), (70, c_ref01_Parent)] L_ref01_Path Ls_ref01_Path B_ref01_Path Tryz.f44 [.i] [(.arr 3 .i), .bool] x = g_ref01_Path x := by kernel_rfl
theorem ok_ref01_Path : ConOK Tryz.prog 44 c_ref01_Path := con_ok (ConsOK.cons ok_ref01_Leaf (ConsOK.cons ok_ref01_Parent (ConsOK.nil))) L_ref01_Path Ls_ref01_Path (B := B_ref01_Path) (BodiesOK.nil) Tryz.func44 rfl fun x y hf h => (run_ref01_Path x).trans (eq_ref01_Path x y hf h)
noncomputable def L_ref01_Below : List (Nat × LD) := [(3, ⟨⟨[(0, .hole .i), (1, .hole .i)], [], []⟩, [(.exit 0, ⟨[(0, .hole .i), (1, .hole .i)], [], []⟩)], 10, []⟩)]
noncomputable def Ls_ref01_Below : List (Nat × List (Nat × LD)) := []
noncomputable def B_ref01_Below : Bodies := []
theorem run_ref01_Below (x : denL [.i, .i]) : run [(91, c_ref01_Node), (70, c_ref01_Parent)] L_ref01_Below Ls_ref01_Below B_ref01_Below Tryz.f68 [.i, .i] [.bool] x = g_ref01_Below x := by kernel_rfl
theorem ok_ref01_Below : ConOK Tryz.prog 68 c_ref01_Below := con_ok (ConsOK.cons ok_ref01_Node (ConsOK.cons ok_ref01_Parent (ConsOK.nil))) L_ref01_Below Ls_ref01_Below (B := B_ref01_Below) (BodiesOK.nil) Tryz.func68 rfl fun x y hf h => (run_ref01_Below x).trans (eq_ref01_Below x y hf h)
noncomputable def L_shape_first : List (Nat × LD) := []
noncomputable def Ls_shape_first : List (Nat × List (Nat × LD)) := []
noncomputable def B_shape_first : Bodies := []
theorem run_shape_first (x : denL [.i]) : run [] L_shape_first Ls_shape_first B_shape_first Tryz.f86 [.i] [.i] x = g_shape_first x := by kernel_rfl
theorem ok_shape_first : ConOK Tryz.prog 86 c_shape_first := con_ok (ConsOK.nil) L_shape_first Ls_shape_first (B := B_shape_first) (BodiesOK.nil) Tryz.func86 rfl fun x y hf h => (run_shape_first x).trans (eq_shape_first x y hf h)
noncomputable def L_shape_Level : List (Nat × LD) := [(5, ⟨⟨[(0, .hole .i), (3, .hole .i)], [], []⟩, [(.ret, ⟨[(2, .hole .i)], [], []⟩)], 10, []⟩)]
noncomputable def Ls_shape_Level : List (Nat × List (Nat × LD)) := []
noncomputable def B_shape_Level : Bodies := []
theorem run_shape_Level (x : denL [.i]) : run [(86, c_shape_first)] L_shape_Level Ls_shape_Level B_shape_Level Tryz.f84 [.i] [.i] x = g_shape_Level x := by kernel_rfl
theorem ok_shape_Level : ConOK Tryz.prog 84 c_shape_Level := con_ok (ConsOK.cons ok_shape_first (ConsOK.nil)) L_shape_Level Ls_shape_Level (B := B_shape_Level) (BodiesOK.nil) Tryz.func84 rfl fun x y hf h => (run_shape_Level x).trans (eq_shape_Level x y hf h)
noncomputable def L_shape_span : List (Nat × LD) := []
noncomputable def Ls_shape_span : List (Nat × List (Nat × LD)) := []
noncomputable def B_shape_span : Bodies := []
theorem run_shape_span (x : denL [.i]) : run [(84, c_shape_Level), (86, c_shape_first)] L_shape_span Ls_shape_span B_shape_span Tryz.f85 [.i] [.i, .i] x = g_shape_span x := by kernel_rfl
theorem ok_shape_span : ConOK Tryz.prog 85 c_shape_span := con_ok (ConsOK.cons ok_shape_Level (ConsOK.cons ok_shape_first (ConsOK.nil))) L_shape_span Ls_shape_span (B := B_shape_span) (BodiesOK.nil) Tryz.func85 rfl fun x y hf h => (run_shape_span x).trans (eq_shape_span x y hf h)
noncomputable def L_shape_Mask : List (Nat × LD) := []
noncomputable def Ls_shape_Mask : List (Nat × List (Nat × LD)) := []
noncomputable def B_shape_Mask : Bodies := []
theorem run_shape_Mask (x : denL [.i]) : run [(84, c_shape_Level), (85, c_shape_span)] L_shape_Mask Ls_shape_Mask B_shape_Mask Tryz.f58 [.i] [(.int .u64)] x = g_shape_Mask x := by kernel_rfl
theorem ok_shape_Mask : ConOK Tryz.prog 58 c_shape_Mask := con_ok (ConsOK.cons ok_shape_Level (ConsOK.cons ok_shape_span (ConsOK.nil))) L_shape_Mask Ls_shape_Mask (B := B_shape_Mask) (BodiesOK.nil) Tryz.func58 rfl fun x y hf h => (run_shape_Mask x).trans (eq_shape_Mask x y hf h)
noncomputable def L_shape_Slot : List (Nat × LD) := []
noncomputable def Ls_shape_Slot : List (Nat × List (Nat × LD)) := []
noncomputable def B_shape_Slot : Bodies := []
theorem run_shape_Slot (x : denL [.i]) : run [] L_shape_Slot Ls_shape_Slot B_shape_Slot Tryz.f82 [.i] [.i] x = g_shape_Slot x := by kernel_rfl
theorem ok_shape_Slot : ConOK Tryz.prog 82 c_shape_Slot := con_ok (ConsOK.nil) L_shape_Slot Ls_shape_Slot (B := B_shape_Slot) (BodiesOK.nil) Tryz.func82 rfl fun x y hf h => (run_shape_Slot x).trans (eq_shape_Slot x y hf h)
noncomputable def L_shape_Child : List (Nat × LD) := []
noncomputable def Ls_shape_Child : List (Nat × List (Nat × LD)) := []
noncomputable def B_shape_Child : Bodies := []
theorem run_shape_Child (x : denL [.i, .i]) : run [] L_shape_Child Ls_shape_Child B_shape_Child Tryz.f57 [.i, .i] [.i] x = g_shape_Child x := by kernel_rfl
theorem ok_shape_Child : ConOK Tryz.prog 57 c_shape_Child := con_ok (ConsOK.nil) L_shape_Child Ls_shape_Child (B := B_shape_Child) (BodiesOK.nil) Tryz.func57 rfl fun x y hf h => (run_shape_Child x).trans (eq_shape_Child x y hf h)
noncomputable def L_shape_Leaf : List (Nat × LD) := []
noncomputable def Ls_shape_Leaf : List (Nat × List (Nat × LD)) := []
noncomputable def B_shape_Leaf : Bodies := []
theorem run_shape_Leaf (x : denL [.i]) : run [] L_shape_Leaf Ls_shape_Leaf B_shape_Leaf Tryz.f60 [.i] [.i] x = g_shape_Leaf x := by kernel_rfl
theorem ok_shape_Leaf : ConOK Tryz.prog 60 c_shape_Leaf := con_ok (ConsOK.nil) L_shape_Leaf Ls_shape_Leaf (B := B_shape_Leaf) (BodiesOK.nil) Tryz.func60 rfl fun x y hf h => (run_shape_Leaf x).trans (eq_shape_Leaf x y hf h)
noncomputable def L_shape_Path : List (Nat × LD) := [(5, ⟨⟨[(0, .hole .i), (2, .ptr 0 []), (4, .ptr 1 []), (11, .hole .i)], [(0, (.arr 3 .i), .hole (.arr 3 .i)), (1, (.arr 3 .i), .hole (.arr 3 .i))], []⟩, [(.exit 0, ⟨[(2, .ptr 0 []), (4, .ptr 1 [])], [(0, (.arr 3 .i), .hole (.arr 3 .i)), (1, (.arr 3 .i), .hole (.arr 3 .i))], []⟩)], 10, []⟩)]
noncomputable def Ls_shape_Path : List (Nat × List (Nat × LD)) := []
noncomputable def B_shape_Path : Bodies := []
theorem run_shape_Path (x : denL [.i]) : run [(60, c_shape_Leaf), (86, c_shape_first)] L_shape_Path Ls_shape_Path B_shape_Path Tryz.f59 [.i] [(.arr 3 .i), .bool] x = g_shape_Path x := by kernel_rfl
theorem ok_shape_Path : ConOK Tryz.prog 59 c_shape_Path := con_ok (ConsOK.cons ok_shape_Leaf (ConsOK.cons ok_shape_first (ConsOK.nil))) L_shape_Path Ls_shape_Path (B := B_shape_Path) (BodiesOK.nil) Tryz.func59 rfl fun x y hf h => (run_shape_Path x).trans (eq_shape_Path x y hf h)
noncomputable def L_shape_Above : List (Nat × LD) := [(3, ⟨⟨[(0, .hole (.int .u64)), (3, .hole (.int .u32)), (5, .hole .i)], [], []⟩, [(.exit 0, ⟨[(3, .hole (.int .u32))], [], []⟩)], 10, []⟩)]
noncomputable def Ls_shape_Above : List (Nat × List (Nat × LD)) := []
noncomputable def B_shape_Above : Bodies := []
theorem run_shape_Above (x : denL [(.int .u64)]) : run [(58, c_shape_Mask)] L_shape_Above Ls_shape_Above B_shape_Above Tryz.f76 [(.int .u64)] [(.int .u32)] x = g_shape_Above x := by kernel_rfl
theorem ok_shape_Above : ConOK Tryz.prog 76 c_shape_Above := con_ok (ConsOK.cons ok_shape_Mask (ConsOK.nil)) L_shape_Above Ls_shape_Above (B := B_shape_Above) (BodiesOK.nil) Tryz.func76 rfl fun x y hf h => (run_shape_Above x).trans (eq_shape_Above x y hf h)
noncomputable def L_roster_right : List (Nat × LD) := []
noncomputable def Ls_roster_right : List (Nat × List (Nat × LD)) := []
noncomputable def B_roster_right : Bodies := []
theorem run_roster_right (x : denL [(.st .entry)]) : run [] L_roster_right Ls_roster_right B_roster_right Tryz.f93 [(.st .entry)] [.bool] x = g_roster_right x := by kernel_rfl
theorem ok_roster_right : ConOK Tryz.prog 93 c_roster_right := con_ok (ConsOK.nil) L_roster_right Ls_roster_right (B := B_roster_right) (BodiesOK.nil) Tryz.func93 rfl fun x y hf h => (run_roster_right x).trans (eq_roster_right x y hf h)
noncomputable def L_roster_Check : List (Nat × LD) := [(3, ⟨⟨[(3, .mp 1), (4, .mp 2), (9, .hole (.arr 64 (.st .entry))), (10, .hole .i)], [], [(1, .i, .i), (2, .i, .i)]⟩, [(.ret, ⟨[(2, .hole .i)], [], []⟩), (.exit 0, ⟨[], [], []⟩)], 11, []⟩)]
noncomputable def Ls_roster_Check : List (Nat × List (Nat × LD)) := []
noncomputable def B_roster_Check : Bodies := []
theorem run_roster_Check (x : denL [(.arr 64 (.st .entry))]) : run [(93, c_roster_right)] L_roster_Check Ls_roster_Check B_roster_Check Tryz.f72 [(.arr 64 (.st .entry))] [.i] x = g_roster_Check x := by kernel_rfl
theorem ok_roster_Check : ConOK Tryz.prog 72 c_roster_Check := con_ok (ConsOK.cons ok_roster_right (ConsOK.nil)) L_roster_Check Ls_roster_Check (B := B_roster_Check) (BodiesOK.nil) Tryz.func72 rfl fun x y hf h => (run_roster_Check x).trans (eq_roster_Check x y hf h)
noncomputable def L_roster_Find : List (Nat × LD) := []
noncomputable def Ls_roster_Find : List (Nat × List (Nat × LD)) := [(94, [(2, ⟨⟨[(0, .asl 0 []), (1, .fn 95 [1]), (7, .hole .i), (8, .hole .i)], [(0, (.arr 64 (.st .entry)), .hole (.arr 64 (.st .entry))), (1, .i, .hole .i)], []⟩, [(.ret, ⟨[(4, .hole .i)], [(0, (.arr 64 (.st .entry)), .hole (.arr 64 (.st .entry))), (1, .i, .hole .i)], []⟩), (.exit 0, ⟨[], [(0, (.arr 64 (.st .entry)), .hole (.arr 64 (.st .entry))), (1, .i, .hole .i)], []⟩)], 10, []⟩)])]
noncomputable def B_roster_Find : Bodies := [bodyLine 95 Tryz.f95, bodyLine 94 Tryz.f94]
theorem run_roster_Find (x : denL [(.arr 64 (.st .entry)), .i]) : run [] L_roster_Find Ls_roster_Find B_roster_Find Tryz.f74 [(.arr 64 (.st .entry)), .i] [.i] x = g_roster_Find x := by kernel_rfl
theorem ok_roster_Find : ConOK Tryz.prog 74 c_roster_Find := con_ok (ConsOK.nil) L_roster_Find Ls_roster_Find (B := B_roster_Find) (BodiesOK.cons Tryz.func95 rfl (BodiesOK.cons Tryz.func94 rfl (BodiesOK.nil))) Tryz.func74 rfl fun x y hf h => (run_roster_Find x).trans (eq_roster_Find x y hf h)
noncomputable def L_roster_Taken : List (Nat × LD) := [(3, ⟨⟨[(3, .hole (.int .u64)), (6, .hole (.arr 64 (.st .entry))), (7, .hole .i)], [], []⟩, [(.exit 0, ⟨[(3, .hole (.int .u64))], [], []⟩)], 11, []⟩)]
noncomputable def Ls_roster_Taken : List (Nat × List (Nat × LD)) := []
noncomputable def B_roster_Taken : Bodies := []
theorem run_roster_Taken (x : denL [(.arr 64 (.st .entry))]) : run [] L_roster_Taken Ls_roster_Taken B_roster_Taken Tryz.f56 [(.arr 64 (.st .entry))] [(.int .u64)] x = g_roster_Taken x := by kernel_rfl
theorem ok_roster_Taken : ConOK Tryz.prog 56 c_roster_Taken := con_ok (ConsOK.nil) L_roster_Taken Ls_roster_Taken (B := B_roster_Taken) (BodiesOK.nil) Tryz.func56 rfl fun x y hf h => (run_roster_Taken x).trans (eq_roster_Taken x y hf h)
noncomputable def L_ref09_Right : List (Nat × LD) := []
noncomputable def Ls_ref09_Right : List (Nat × List (Nat × LD)) := []
noncomputable def B_ref09_Right : Bodies := []
theorem run_ref09_Right (x : denL [(.st .entry)]) : run [] L_ref09_Right Ls_ref09_Right B_ref09_Right Tryz.f88 [(.st .entry)] [.bool] x = g_ref09_Right x := by kernel_rfl
theorem ok_ref09_Right : ConOK Tryz.prog 88 c_ref09_Right := con_ok (ConsOK.nil) L_ref09_Right Ls_ref09_Right (B := B_ref09_Right) (BodiesOK.nil) Tryz.func88 rfl fun x y hf h => (run_ref09_Right x).trans (eq_ref09_Right x y hf h)
noncomputable def L_ref09_Check : List (Nat × LD) := [(8, ⟨⟨[(1, .ptr 0 []), (3, .hole .i), (4, .hole .i)], [(0, (.arr 64 (.st .entry)), .hole (.arr 64 (.st .entry)))], []⟩, [(.ret, ⟨[(2, .hole .i)], [], []⟩), (.exit 2, ⟨[(1, .ptr 0 []), (3, .hole .i)], [(0, (.arr 64 (.st .entry)), .hole (.arr 64 (.st .entry)))], []⟩)], 10, []⟩), (2, ⟨⟨[(1, .ptr 0 []), (3, .hole .i)], [(0, (.arr 64 (.st .entry)), .hole (.arr 64 (.st .entry)))], []⟩, [(.ret, ⟨[(2, .hole .i)], [], []⟩), (.exit 0, ⟨[], [], []⟩)], 20, []⟩)]
noncomputable def Ls_ref09_Check : List (Nat × List (Nat × LD)) := []
noncomputable def B_ref09_Check : Bodies := []
theorem run_ref09_Check (x : denL [(.arr 64 (.st .entry))]) : run [(88, c_ref09_Right)] L_ref09_Check Ls_ref09_Check B_ref09_Check Tryz.f62 [(.arr 64 (.st .entry))] [.i] x = g_ref09_Check x := by kernel_rfl
theorem ok_ref09_Check : ConOK Tryz.prog 62 c_ref09_Check := con_ok (ConsOK.cons ok_ref09_Right (ConsOK.nil)) L_ref09_Check Ls_ref09_Check (B := B_ref09_Check) (BodiesOK.nil) Tryz.func62 rfl fun x y hf h => (run_ref09_Check x).trans (eq_ref09_Check x y hf h)
noncomputable def L_ref09_Find : List (Nat × LD) := [(2, ⟨⟨[(1, .hole .i), (2, .ptr 0 []), (5, .hole .i)], [(0, (.arr 64 (.st .entry)), .hole (.arr 64 (.st .entry)))], []⟩, [(.ret, ⟨[(4, .hole .i)], [], []⟩), (.exit 0, ⟨[], [], []⟩)], 10, []⟩)]
noncomputable def Ls_ref09_Find : List (Nat × List (Nat × LD)) := []
noncomputable def B_ref09_Find : Bodies := []
theorem run_ref09_Find (x : denL [(.arr 64 (.st .entry)), .i]) : run [] L_ref09_Find Ls_ref09_Find B_ref09_Find Tryz.f36 [(.arr 64 (.st .entry)), .i] [.i] x = g_ref09_Find x := by kernel_rfl
theorem ok_ref09_Find : ConOK Tryz.prog 36 c_ref09_Find := con_ok (ConsOK.nil) L_ref09_Find Ls_ref09_Find (B := B_ref09_Find) (BodiesOK.nil) Tryz.func36 rfl fun x y hf h => (run_ref09_Find x).trans (eq_ref09_Find x y hf h)
noncomputable def L_ref11_Start : List (Nat × LD) := [(3, ⟨⟨[(0, .ptr 0 []), (1, .ptr 1 []), (2, .hole .i)], [(0, (.st .tree), .hole (.st .tree)), (1, (.st .tree), .hole (.st .tree))], []⟩, [(.exit 0, ⟨[(0, .ptr 0 []), (1, .ptr 1 [])], [(0, (.st .tree), .hole (.st .tree)), (1, (.st .tree), .hole (.st .tree))], []⟩)], 10, []⟩)]
noncomputable def Ls_ref11_Start : List (Nat × List (Nat × LD)) := []
noncomputable def B_ref11_Start : Bodies := []
theorem run_ref11_Start (x : denL []) : run [] L_ref11_Start Ls_ref11_Start B_ref11_Start Tryz.f12 [] [(.st .tree)] x = g_ref11_Start x := by kernel_rfl
theorem ok_ref11_Start : ConOK Tryz.prog 12 c_ref11_Start := con_ok (ConsOK.nil) L_ref11_Start Ls_ref11_Start (B := B_ref11_Start) (BodiesOK.nil) Tryz.func12 rfl fun x y hf h => (run_ref11_Start x).trans (eq_ref11_Start x y hf h)
noncomputable def L_ref11_Check : List (Nat × LD) := [(4, ⟨⟨[(1, .ptr 0 []), (3, .hole .i)], [(0, (.st .tree), .hole (.st .tree))], []⟩, [(.ret, ⟨[(2, .hole .i)], [], []⟩), (.exit 0, ⟨[(1, .ptr 0 [])], [(0, (.st .tree), .hole (.st .tree))], []⟩)], 10, []⟩), (14, ⟨⟨[(1, .ptr 0 []), (4, .hole .i), (5, .hole .i)], [(0, (.st .tree), .hole (.st .tree))], []⟩, [(.ret, ⟨[(2, .hole .i)], [], []⟩), (.exit 4, ⟨[(1, .ptr 0 []), (4, .hole .i)], [(0, (.st .tree), .hole (.st .tree))], []⟩)], 10, []⟩), (9, ⟨⟨[(1, .ptr 0 []), (4, .hole .i)], [(0, (.st .tree), .hole (.st .tree))], []⟩, [(.ret, ⟨[(2, .hole .i)], [], []⟩), (.exit 2, ⟨[], [], []⟩)], 20, []⟩)]
noncomputable def Ls_ref11_Check : List (Nat × List (Nat × LD)) := []
noncomputable def B_ref11_Check : Bodies := []
theorem run_ref11_Check (x : denL [(.st .tree)]) : run [(61, c_ref10_Check), (62, c_ref09_Check)] L_ref11_Check Ls_ref11_Check B_ref11_Check Tryz.f34 [(.st .tree)] [.i] x = g_ref11_Check x := by kernel_rfl
theorem ok_ref11_Check : ConOK Tryz.prog 34 c_ref11_Check := con_ok (ConsOK.cons ok_ref10_Check (ConsOK.cons ok_ref09_Check (ConsOK.nil))) L_ref11_Check Ls_ref11_Check (B := B_ref11_Check) (BodiesOK.nil) Tryz.func34 rfl fun x y hf h => (run_ref11_Check x).trans (eq_ref11_Check x y hf h)
noncomputable def L_ref11_Of : List (Nat × LD) := []
noncomputable def Ls_ref11_Of : List (Nat × List (Nat × LD)) := []
noncomputable def B_ref11_Of : Bodies := []
theorem run_ref11_Of (x : denL [(.st .tree), .i]) : run [(91, c_ref01_Node), (92, c_ref10_LeafAt)] L_ref11_Of Ls_ref11_Of B_ref11_Of Tryz.f69 [(.st .tree), .i] [(.st .key), .i] x = g_ref11_Of x := by kernel_rfl
theorem ok_ref11_Of : ConOK Tryz.prog 69 c_ref11_Of := con_ok (ConsOK.cons ok_ref01_Node (ConsOK.cons ok_ref10_LeafAt (ConsOK.nil))) L_ref11_Of Ls_ref11_Of (B := B_ref11_Of) (BodiesOK.nil) Tryz.func69 rfl fun x y hf h => (run_ref11_Of x).trans (eq_ref11_Of x y hf h)
noncomputable def L_ref11_Below : List (Nat × LD) := [(2, ⟨⟨[(1, .hole .i), (2, .ptr 0 []), (5, .hole .i)], [(0, (.arr 64 (.st .entry)), .hole (.arr 64 (.st .entry)))], []⟩, [(.ret, ⟨[(4, .hole .bool)], [], []⟩), (.exit 0, ⟨[], [], []⟩)], 10, []⟩)]
noncomputable def Ls_ref11_Below : List (Nat × List (Nat × LD)) := []
noncomputable def B_ref11_Below : Bodies := []
theorem run_ref11_Below (x : denL [(.arr 64 (.st .entry)), .i]) : run [(45, c_ref01_Leaf), (68, c_ref01_Below)] L_ref11_Below Ls_ref11_Below B_ref11_Below Tryz.f42 [(.arr 64 (.st .entry)), .i] [.bool] x = g_ref11_Below x := by kernel_rfl
theorem ok_ref11_Below : ConOK Tryz.prog 42 c_ref11_Below := con_ok (ConsOK.cons ok_ref01_Leaf (ConsOK.cons ok_ref01_Below (ConsOK.nil))) L_ref11_Below Ls_ref11_Below (B := B_ref11_Below) (BodiesOK.nil) Tryz.func42 rfl fun x y hf h => (run_ref11_Below x).trans (eq_ref11_Below x y hf h)
noncomputable def L_keytree_Check : List (Nat × LD) := [(7, ⟨⟨[(1, .ptr 0 []), (3, .mp 1), (38, .hole (.arr 21 (.st .key))), (39, .hole .i)], [(0, (.st .tree), .hole (.st .tree))], [(1, .i, .i)]⟩, [(.ret, ⟨[(2, .hole .i)], [], []⟩), (.exit 0, ⟨[(1, .ptr 0 []), (3, .mp 1)], [(0, (.st .tree), .hole (.st .tree))], [(1, .i, .i)]⟩)], 11, []⟩), (14, ⟨⟨[(1, .ptr 0 []), (3, .mp 1), (61, .hole (.arr 64 (.st .entry))), (62, .hole .i)], [(0, (.st .tree), .hole (.st .tree))], [(1, .i, .i)]⟩, [(.ret, ⟨[(2, .hole .i)], [], []⟩), (.exit 2, ⟨[], [], []⟩)], 11, []⟩)]
noncomputable def Ls_keytree_Check : List (Nat × List (Nat × LD)) := []
noncomputable def B_keytree_Check : Bodies := []
theorem run_keytree_Check (x : denL [(.st .tree)]) : run [(71, c_ratchet_Check), (72, c_roster_Check)] L_keytree_Check Ls_keytree_Check B_keytree_Check Tryz.f46 [(.st .tree)] [.i] x = g_keytree_Check x := by kernel_rfl
theorem ok_keytree_Check : ConOK Tryz.prog 46 c_keytree_Check := con_ok (ConsOK.cons ok_ratchet_Check (ConsOK.cons ok_roster_Check (ConsOK.nil))) L_keytree_Check Ls_keytree_Check (B := B_keytree_Check) (BodiesOK.nil) Tryz.func46 rfl fun x y hf h => (run_keytree_Check x).trans (eq_keytree_Check x y hf h)
noncomputable def L_ref08_Places : List (Nat × LD) := [(3, ⟨⟨[(0, .hole (.int .u64)), (2, .ptr 0 []), (3, .ptr 1 []), (4, .hole .i)], [(0, (.arr 64 .bool), .hole (.arr 64 .bool)), (1, (.arr 64 .bool), .hole (.arr 64 .bool))], []⟩, [(.exit 0, ⟨[(2, .ptr 0 []), (3, .ptr 1 [])], [(0, (.arr 64 .bool), .hole (.arr 64 .bool)), (1, (.arr 64 .bool), .hole (.arr 64 .bool))], []⟩)], 10, []⟩)]
noncomputable def Ls_ref08_Places : List (Nat × List (Nat × LD)) := []
noncomputable def B_ref08_Places : Bodies := []
theorem run_ref08_Places (x : denL [(.int .u64)]) : run [] L_ref08_Places Ls_ref08_Places B_ref08_Places Tryz.f101 [(.int .u64)] [(.arr 64 .bool)] x = g_ref08_Places x := by kernel_rfl
theorem ok_ref08_Places : ConOK Tryz.prog 101 c_ref08_Places := con_ok (ConsOK.nil) L_ref08_Places Ls_ref08_Places (B := B_ref08_Places) (BodiesOK.nil) Tryz.func101 rfl fun x y hf h => (run_ref08_Places x).trans (eq_ref08_Places x y hf h)
noncomputable def L_ref08_Word : List (Nat × LD) := [(3, ⟨⟨[(1, .ptr 0 []), (3, .hole (.int .u64)), (4, .hole .i)], [(0, (.arr 64 .bool), .hole (.arr 64 .bool))], []⟩, [(.exit 0, ⟨[(3, .hole (.int .u64))], [], []⟩)], 10, []⟩)]
noncomputable def Ls_ref08_Word : List (Nat × List (Nat × LD)) := []
noncomputable def B_ref08_Word : Bodies := []
theorem run_ref08_Word (x : denL [(.arr 64 .bool)]) : run [] L_ref08_Word Ls_ref08_Word B_ref08_Word Tryz.f90 [(.arr 64 .bool)] [(.int .u64)] x = g_ref08_Word x := by kernel_rfl
theorem ok_ref08_Word : ConOK Tryz.prog 90 c_ref08_Word := con_ok (ConsOK.nil) L_ref08_Word Ls_ref08_Word (B := B_ref08_Word) (BodiesOK.nil) Tryz.func90 rfl fun x y hf h => (run_ref08_Word x).trans (eq_ref08_Word x y hf h)
noncomputable def L_ref08_List : List (Nat × LD) := [(4, ⟨⟨[(3, .ptr 0 []), (4, .row .i), (5, .hole .i)], [(0, (.arr 64 .bool), .hole (.arr 64 .bool))], []⟩, [(.exit 0, ⟨[(4, .row .i)], [], []⟩)], 13, []⟩)]
noncomputable def Ls_ref08_List : List (Nat × List (Nat × LD)) := []
noncomputable def B_ref08_List : Bodies := []
theorem run_ref08_List (x : denL [(.int .u64)]) : run [(101, c_ref08_Places)] L_ref08_List Ls_ref08_List B_ref08_List Tryz.f89 [(.int .u64)] [(.list .i)] x = g_ref08_List x := by kernel_rfl
theorem ok_ref08_List : ConOK Tryz.prog 89 c_ref08_List := con_ok (ConsOK.cons ok_ref08_Places (ConsOK.nil)) L_ref08_List Ls_ref08_List (B := B_ref08_List) (BodiesOK.nil) Tryz.func89 rfl fun x y hf h => (run_ref08_List x).trans (eq_ref08_List x y hf h)
noncomputable def L_ref08_Count : List (Nat × LD) := []
noncomputable def Ls_ref08_Count : List (Nat × List (Nat × LD)) := []
noncomputable def B_ref08_Count : Bodies := []
theorem run_ref08_Count (x : denL [(.int .u64)]) : run [(89, c_ref08_List)] L_ref08_Count Ls_ref08_Count B_ref08_Count Tryz.f64 [(.int .u64)] [.i] x = g_ref08_Count x := by kernel_rfl
theorem ok_ref08_Count : ConOK Tryz.prog 64 c_ref08_Count := con_ok (ConsOK.cons ok_ref08_List (ConsOK.nil)) L_ref08_Count Ls_ref08_Count (B := B_ref08_Count) (BodiesOK.nil) Tryz.func64 rfl fun x y hf h => (run_ref08_Count x).trans (eq_ref08_Count x y hf h)
noncomputable def L_ref09_Taken : List (Nat × LD) := [(3, ⟨⟨[(1, .ptr 0 []), (3, .ptr 1 []), (4, .hole .i)], [(0, (.arr 64 (.st .entry)), .hole (.arr 64 (.st .entry))), (1, (.arr 64 .bool), .hole (.arr 64 .bool))], []⟩, [(.exit 0, ⟨[(3, .ptr 1 [])], [(1, (.arr 64 .bool), .hole (.arr 64 .bool))], []⟩)], 10, []⟩)]
noncomputable def Ls_ref09_Taken : List (Nat × List (Nat × LD)) := []
noncomputable def B_ref09_Taken : Bodies := []
theorem run_ref09_Taken (x : denL [(.arr 64 (.st .entry))]) : run [(90, c_ref08_Word)] L_ref09_Taken Ls_ref09_Taken B_ref09_Taken Tryz.f65 [(.arr 64 (.st .entry))] [(.int .u64)] x = g_ref09_Taken x := by kernel_rfl
theorem ok_ref09_Taken : ConOK Tryz.prog 65 c_ref09_Taken := con_ok (ConsOK.cons ok_ref08_Word (ConsOK.nil)) L_ref09_Taken Ls_ref09_Taken (B := B_ref09_Taken) (BodiesOK.nil) Tryz.func65 rfl fun x y hf h => (run_ref09_Taken x).trans (eq_ref09_Taken x y hf h)
noncomputable def L_ref09_person : List (Nat × LD) := []
noncomputable def Ls_ref09_person : List (Nat × List (Nat × LD)) := []
noncomputable def B_ref09_person : Bodies := []
theorem run_ref09_person (x : denL [(.arr 64 (.st .entry)), (.arr 256 .bool), .i, .bool]) : run [(36, c_ref09_Find)] L_ref09_person Ls_ref09_person B_ref09_person Tryz.f63 [(.arr 64 (.st .entry)), (.arr 256 .bool), .i, .bool] [.i] x = g_ref09_person x := by kernel_rfl
theorem ok_ref09_person : ConOK Tryz.prog 63 c_ref09_person := con_ok (ConsOK.cons ok_ref09_Find (ConsOK.nil)) L_ref09_person Ls_ref09_person (B := B_ref09_person) (BodiesOK.nil) Tryz.func63 rfl fun x y hf h => (run_ref09_person x).trans (eq_ref09_person x y hf h)
noncomputable def L_ref09_Fits : List (Nat × LD) := [(5, ⟨⟨[(2, .ptr 0 []), (3, .ptr 1 []), (5, .ptr 2 []), (16, .hole (.list .i)), (17, .hole .i), (18, .hole .i)], [(0, (.arr 64 (.st .entry)), .hole (.arr 64 (.st .entry))), (1, (.st .batch), .hole (.st .batch)), (2, (.arr 256 .bool), .hole (.arr 256 .bool))], []⟩, [(.ret, ⟨[(4, .hole .i)], [], []⟩), (.exit 0, ⟨[(2, .ptr 0 []), (3, .ptr 1 []), (5, .ptr 2 [])], [(0, (.arr 64 (.st .entry)), .hole (.arr 64 (.st .entry))), (1, (.st .batch), .hole (.st .batch)), (2, (.arr 256 .bool), .hole (.arr 256 .bool))], []⟩)], 10, []⟩), (13, ⟨⟨[(2, .ptr 0 []), (3, .ptr 1 []), (5, .ptr 2 []), (33, .hole (.list .i)), (34, .hole .i), (35, .hole .i)], [(0, (.arr 64 (.st .entry)), .hole (.arr 64 (.st .entry))), (1, (.st .batch), .hole (.st .batch)), (2, (.arr 256 .bool), .hole (.arr 256 .bool))], []⟩, [(.ret, ⟨[(4, .hole .i)], [], []⟩), (.exit 2, ⟨[(2, .ptr 0 []), (3, .ptr 1 [])], [(0, (.arr 64 (.st .entry)), .hole (.arr 64 (.st .entry))), (1, (.st .batch), .hole (.st .batch))], []⟩)], 10, []⟩)]
noncomputable def Ls_ref09_Fits : List (Nat × List (Nat × LD)) := []
noncomputable def B_ref09_Fits : Bodies := []
theorem run_ref09_Fits (x : denL [(.arr 64 (.st .entry)), (.st .batch)]) : run [(62, c_ref09_Check), (63, c_ref09_person), (65, c_ref09_Taken), (64, c_ref08_Count)] L_ref09_Fits Ls_ref09_Fits B_ref09_Fits Tryz.f35 [(.arr 64 (.st .entry)), (.st .batch)] [.i] x = g_ref09_Fits x := by kernel_rfl
theorem ok_ref09_Fits : ConOK Tryz.prog 35 c_ref09_Fits := con_ok (ConsOK.cons ok_ref09_Check (ConsOK.cons ok_ref09_person (ConsOK.cons ok_ref09_Taken (ConsOK.cons ok_ref08_Count (ConsOK.nil))))) L_ref09_Fits Ls_ref09_Fits (B := B_ref09_Fits) (BodiesOK.nil) Tryz.func35 rfl fun x y hf h => (run_ref09_Fits x).trans (eq_ref09_Fits x y hf h)
noncomputable def L_ref09_Move : List (Nat × LD) := [(10, ⟨⟨[(2, .hole .i), (3, .hole .i), (4, .ptr 0 []), (5, .ptr 1 []), (8, .ptr 2 []), (13, .hole .i), (14, .hole .i)], [(0, (.arr 64 (.st .entry)), .hole (.arr 64 (.st .entry))), (1, (.st .batch), .hole (.st .batch)), (2, (.arr 64 (.st .entry)), .hole (.arr 64 (.st .entry)))], []⟩, [(.ret, ⟨[(8, .ptr 2 []), (9, .nils), (10, .nils), (11, .hole .i)], [(2, (.arr 64 (.st .entry)), .hole (.arr 64 (.st .entry)))], []⟩), (.exit 0, ⟨[(2, .hole .i), (3, .hole .i), (4, .ptr 0 []), (5, .ptr 1 []), (8, .ptr 2 [])], [(0, (.arr 64 (.st .entry)), .hole (.arr 64 (.st .entry))), (1, (.st .batch), .hole (.st .batch)), (2, (.arr 64 (.st .entry)), .hole (.arr 64 (.st .entry)))], []⟩)], 10, []⟩), (16, ⟨⟨[(2, .hole .i), (3, .hole .i), (4, .ptr 0 []), (5, .ptr 1 []), (8, .ptr 2 []), (15, .row (.st .seat)), (16, .nils), (79, .hole (.list .i)), (80, .hole .i), (81, .hole .i)], [(0, (.arr 64 (.st .entry)), .hole (.arr 64 (.st .entry))), (1, (.st .batch), .hole (.st .batch)), (2, (.arr 64 (.st .entry)), .hole (.arr 64 (.st .entry)))], []⟩, [(.exit 2, ⟨[(2, .hole .i), (3, .hole .i), (4, .ptr 0 []), (5, .ptr 1 []), (8, .ptr 2 []), (15, .row (.st .seat)), (16, .nils)], [(0, (.arr 64 (.st .entry)), .hole (.arr 64 (.st .entry))), (1, (.st .batch), .hole (.st .batch)), (2, (.arr 64 (.st .entry)), .hole (.arr 64 (.st .entry)))], []⟩)], 13, []⟩), (26, ⟨⟨[(2, .hole .i), (3, .hole .i), (4, .ptr 0 []), (8, .ptr 2 []), (15, .row (.st .seat)), (16, .row (.st .seat)), (20, .hole .i), (21, .hole .i), (22, .hole .i), (99, .hole (.list .i)), (100, .hole .i), (101, .hole .i)], [(0, (.arr 64 (.st .entry)), .hole (.arr 64 (.st .entry))), (2, (.arr 64 (.st .entry)), .hole (.arr 64 (.st .entry)))], []⟩, [(.exit 6, ⟨[(2, .hole .i), (3, .hole .i), (4, .ptr 0 []), (8, .ptr 2 []), (15, .row (.st .seat)), (16, .row (.st .seat)), (20, .hole .i), (21, .hole .i), (22, .hole .i), (99, .hole (.list .i)), (100, .hole .i), (101, .hole .i)], [(0, (.arr 64 (.st .entry)), .hole (.arr 64 (.st .entry))), (2, (.arr 64 (.st .entry)), .hole (.arr 64 (.st .entry)))], []⟩)], 12, []⟩), (23, ⟨⟨[(2, .hole .i), (3, .hole .i), (4, .ptr 0 []), (8, .ptr 2 []), (15, .row (.st .seat)), (16, .row (.st .seat)), (99, .hole (.list .i)), (100, .hole .i), (101, .hole .i)], [(0, (.arr 64 (.st .entry)), .hole (.arr 64 (.st .entry))), (2, (.arr 64 (.st .entry)), .hole (.arr 64 (.st .entry)))], []⟩, [(.exit 4, ⟨[(4, .ptr 0 []), (8, .ptr 2 []), (15, .row (.st .seat)), (16, .row (.st .seat))], [(0, (.arr 64 (.st .entry)), .hole (.arr 64 (.st .entry))), (2, (.arr 64 (.st .entry)), .hole (.arr 64 (.st .entry)))], []⟩)], 24, []⟩)]
noncomputable def Ls_ref09_Move : List (Nat × List (Nat × LD)) := []
noncomputable def B_ref09_Move : Bodies := []
theorem run_ref09_Move (x : denL [(.arr 64 (.st .entry)), (.st .batch), .i, .i]) : run [(35, c_ref09_Fits), (36, c_ref09_Find)] L_ref09_Move Ls_ref09_Move B_ref09_Move Tryz.f39 [(.arr 64 (.st .entry)), (.st .batch), .i, .i] [(.arr 64 (.st .entry)), (.list (.st .seat)), (.list (.st .seat)), .i] x = g_ref09_Move x := by kernel_rfl
theorem ok_ref09_Move : ConOK Tryz.prog 39 c_ref09_Move := con_ok (ConsOK.cons ok_ref09_Fits (ConsOK.cons ok_ref09_Find (ConsOK.nil))) L_ref09_Move Ls_ref09_Move (B := B_ref09_Move) (BodiesOK.nil) Tryz.func39 rfl fun x y hf h => (run_ref09_Move x).trans (eq_ref09_Move x y hf h)
noncomputable def L_ref11_Replaced : List (Nat × LD) := [(7, ⟨⟨[(0, .hole (.list (.st .seat))), (3, .hole (.int .u32)), (4, .hole (.int .u32)), (5, .hole .i), (12, .hole (.list (.st .seat))), (13, .hole .i), (14, .hole .i)], [], []⟩, [(.exit 2, ⟨[(0, .hole (.list (.st .seat))), (3, .hole (.int .u32)), (4, .hole (.int .u32)), (5, .hole .i)], [], []⟩)], 11, []⟩), (4, ⟨⟨[(0, .hole (.list (.st .seat))), (3, .hole (.int .u32)), (4, .hole (.int .u32)), (5, .hole .i)], [], []⟩, [(.exit 0, ⟨[(3, .hole (.int .u32))], [], []⟩)], 22, []⟩)]
noncomputable def Ls_ref11_Replaced : List (Nat × List (Nat × LD)) := []
noncomputable def B_ref11_Replaced : Bodies := []
theorem run_ref11_Replaced (x : denL [(.list (.st .seat))]) : run [(45, c_ref01_Leaf), (68, c_ref01_Below)] L_ref11_Replaced Ls_ref11_Replaced B_ref11_Replaced Tryz.f38 [(.list (.st .seat))] [(.int .u32)] x = g_ref11_Replaced x := by kernel_rfl
theorem ok_ref11_Replaced : ConOK Tryz.prog 38 c_ref11_Replaced := con_ok (ConsOK.cons ok_ref01_Leaf (ConsOK.cons ok_ref01_Below (ConsOK.nil))) L_ref11_Replaced Ls_ref11_Replaced (B := B_ref11_Replaced) (BodiesOK.nil) Tryz.func38 rfl fun x y hf h => (run_ref11_Replaced x).trans (eq_ref11_Replaced x y hf h)
noncomputable def L_ref11_Next : List (Nat × LD) := [(10, ⟨⟨[(2, .ptr 0 []), (3, .ptr 1 []), (4, .ptr 2 []), (9, .row (.st .seat)), (34, .hole (.list .i)), (35, .hole .i), (36, .hole .i)], [(0, (.st .tree), .hole (.st .tree)), (1, (.st .batch), .hole (.st .batch)), (2, (.st .tree), .hole (.st .tree))], []⟩, [(.exit 0, ⟨[(2, .ptr 0 []), (3, .ptr 1 []), (4, .ptr 2 []), (9, .row (.st .seat))], [(0, (.st .tree), .hole (.st .tree)), (1, (.st .batch), .hole (.st .batch)), (2, (.st .tree), .hole (.st .tree))], []⟩)], 13, []⟩)]
noncomputable def Ls_ref11_Next : List (Nat × List (Nat × LD)) := []
noncomputable def B_ref11_Next : Bodies := []
theorem run_ref11_Next (x : denL [(.st .tree), (.st .batch)]) : run [(34, c_ref11_Check), (35, c_ref09_Fits), (36, c_ref09_Find), (38, c_ref11_Replaced), (37, c_ref10_Turn), (39, c_ref09_Move)] L_ref11_Next Ls_ref11_Next B_ref11_Next Tryz.f25 [(.st .tree), (.st .batch)] [(.st .tree), (.list (.st .seat)), (.list (.st .seat)), .i] x = g_ref11_Next x := by kernel_rfl
theorem ok_ref11_Next : ConOK Tryz.prog 25 c_ref11_Next := con_ok (ConsOK.cons ok_ref11_Check (ConsOK.cons ok_ref09_Fits (ConsOK.cons ok_ref09_Find (ConsOK.cons ok_ref11_Replaced (ConsOK.cons ok_ref10_Turn (ConsOK.cons ok_ref09_Move (ConsOK.nil))))))) L_ref11_Next Ls_ref11_Next (B := B_ref11_Next) (BodiesOK.nil) Tryz.func25 rfl fun x y hf h => (run_ref11_Next x).trans (eq_ref11_Next x y hf h)
noncomputable def L_ref12_item : List (Nat × LD) := []
noncomputable def Ls_ref12_item : List (Nat × List (Nat × LD)) := []
noncomputable def B_ref12_item : Bodies := []
theorem run_ref12_item (x : denL [(.st .tree), .i, .i]) : run [(69, c_ref11_Of)] L_ref12_item Ls_ref12_item B_ref12_item Tryz.f43 [(.st .tree), .i, .i] [(.st .item)] x = g_ref12_item x := by kernel_rfl
theorem ok_ref12_item : ConOK Tryz.prog 43 c_ref12_item := con_ok (ConsOK.cons ok_ref11_Of (ConsOK.nil)) L_ref12_item Ls_ref12_item (B := B_ref12_item) (BodiesOK.nil) Tryz.func43 rfl fun x y hf h => (run_ref12_item x).trans (eq_ref12_item x y hf h)
noncomputable def L_ref12_Items : List (Nat × LD) := [(7, ⟨⟨[(2, .hole (.list (.st .seat))), (3, .ptr 0 []), (7, .hole (.int .u32)), (8, .row (.st .item)), (9, .hole .i), (10, .hole .i)], [(0, (.st .tree), .hole (.st .tree))], []⟩, [(.exit 2, ⟨[(2, .hole (.list (.st .seat))), (3, .ptr 0 []), (7, .hole (.int .u32)), (8, .row (.st .item)), (9, .hole .i)], [(0, (.st .tree), .hole (.st .tree))], []⟩)], 13, []⟩), (4, ⟨⟨[(2, .hole (.list (.st .seat))), (3, .ptr 0 []), (7, .hole (.int .u32)), (8, .row (.st .item)), (9, .hole .i)], [(0, (.st .tree), .hole (.st .tree))], []⟩, [(.exit 0, ⟨[(2, .hole (.list (.st .seat))), (3, .ptr 0 []), (7, .hole (.int .u32)), (8, .row (.st .item))], [(0, (.st .tree), .hole (.st .tree))], []⟩)], 25, []⟩), (17, ⟨⟨[(3, .ptr 0 []), (7, .hole (.int .u32)), (8, .row (.st .item)), (13, .ptr 27 []), (14, .ptr 28 []), (16, .hole .i), (46, .hole (.list (.st .seat))), (47, .hole .i), (48, .hole .i)], [(0, (.st .tree), .hole (.st .tree)), (27, (.st .seat), .hole (.st .seat)), (28, (.arr 3 .i), .hole (.arr 3 .i))], []⟩, [(.exit 6, ⟨[(3, .ptr 0 []), (7, .hole (.int .u32)), (8, .row (.st .item)), (46, .hole (.list (.st .seat))), (47, .hole .i), (48, .hole .i)], [(0, (.st .tree), .hole (.st .tree))], []⟩)], 13, []⟩), (13, ⟨⟨[(3, .ptr 0 []), (7, .hole (.int .u32)), (8, .row (.st .item)), (46, .hole (.list (.st .seat))), (47, .hole .i), (48, .hole .i)], [(0, (.st .tree), .hole (.st .tree))], []⟩, [(.exit 4, ⟨[(8, .row (.st .item))], [], []⟩)], 27, []⟩)]
noncomputable def Ls_ref12_Items : List (Nat × List (Nat × LD)) := []
noncomputable def B_ref12_Items : Bodies := []
theorem run_ref12_Items (x : denL [(.st .tree), (.list (.st .seat)), (.list (.st .seat))]) : run [(38, c_ref11_Replaced), (40, c_ref01_In), (41, c_ref01_Child), (42, c_ref11_Below), (43, c_ref12_item), (44, c_ref01_Path), (45, c_ref01_Leaf)] L_ref12_Items Ls_ref12_Items B_ref12_Items Tryz.f26 [(.st .tree), (.list (.st .seat)), (.list (.st .seat))] [(.list (.st .item))] x = g_ref12_Items x := by kernel_rfl
theorem ok_ref12_Items : ConOK Tryz.prog 26 c_ref12_Items := con_ok (ConsOK.cons ok_ref11_Replaced (ConsOK.cons ok_ref01_In (ConsOK.cons ok_ref01_Child (ConsOK.cons ok_ref11_Below (ConsOK.cons ok_ref12_item (ConsOK.cons ok_ref01_Path (ConsOK.cons ok_ref01_Leaf (ConsOK.nil)))))))) L_ref12_Items Ls_ref12_Items (B := B_ref12_Items) (BodiesOK.nil) Tryz.func26 rfl fun x y hf h => (run_ref12_Items x).trans (eq_ref12_Items x y hf h)
noncomputable def L_ref12_Next : List (Nat × LD) := []
noncomputable def Ls_ref12_Next : List (Nat × List (Nat × LD)) := []
noncomputable def B_ref12_Next : Bodies := []
theorem run_ref12_Next (x : denL [(.st .tree), (.st .batch)]) : run [(25, c_ref11_Next), (26, c_ref12_Items)] L_ref12_Next Ls_ref12_Next B_ref12_Next Tryz.f13 [(.st .tree), (.st .batch)] [(.st .tree), (.st .rekey), .i] x = g_ref12_Next x := by kernel_rfl
theorem ok_ref12_Next : ConOK Tryz.prog 13 c_ref12_Next := con_ok (ConsOK.cons ok_ref11_Next (ConsOK.cons ok_ref12_Items (ConsOK.nil))) L_ref12_Next Ls_ref12_Next (B := B_ref12_Next) (BodiesOK.nil) Tryz.func13 rfl fun x y hf h => (run_ref12_Next x).trans (eq_ref12_Next x y hf h)
noncomputable def L_plan_Replaced : List (Nat × LD) := [(3, ⟨⟨[(3, .hole (.int .u64)), (6, .hole (.list (.st .seat))), (7, .hole .i), (8, .hole .i)], [], []⟩, [(.exit 0, ⟨[(3, .hole (.int .u64))], [], []⟩)], 11, []⟩)]
noncomputable def Ls_plan_Replaced : List (Nat × List (Nat × LD)) := []
noncomputable def B_plan_Replaced : Bodies := []
theorem run_plan_Replaced (x : denL [(.list (.st .seat))]) : run [(60, c_shape_Leaf), (58, c_shape_Mask), (76, c_shape_Above)] L_plan_Replaced Ls_plan_Replaced B_plan_Replaced Tryz.f48 [(.list (.st .seat))] [(.int .u32)] x = g_plan_Replaced x := by kernel_rfl
theorem ok_plan_Replaced : ConOK Tryz.prog 48 c_plan_Replaced := con_ok (ConsOK.cons ok_shape_Leaf (ConsOK.cons ok_shape_Mask (ConsOK.cons ok_shape_Above (ConsOK.nil)))) L_plan_Replaced Ls_plan_Replaced (B := B_plan_Replaced) (BodiesOK.nil) Tryz.func48 rfl fun x y hf h => (run_plan_Replaced x).trans (eq_plan_Replaced x y hf h)
noncomputable def L_bits_OnesCount64 : List (Nat × LD) := []
noncomputable def Ls_bits_OnesCount64 : List (Nat × List (Nat × LD)) := []
noncomputable def B_bits_OnesCount64 : Bodies := []
theorem run_bits_OnesCount64 (x : denL [(.int .u64)]) : run [] L_bits_OnesCount64 Ls_bits_OnesCount64 B_bits_OnesCount64 Tryz.f96 [(.int .u64)] [.i] x = g_bits_OnesCount64 x := by kernel_rfl
theorem ok_bits_OnesCount64 : ConOK Tryz.prog 96 c_bits_OnesCount64 := con_ok (ConsOK.nil) L_bits_OnesCount64 Ls_bits_OnesCount64 (B := B_bits_OnesCount64) (BodiesOK.nil) Tryz.func96 rfl fun x y hf h => (run_bits_OnesCount64 x).trans (eq_bits_OnesCount64 x y hf h)
noncomputable def L_seats_Count : List (Nat × LD) := []
noncomputable def Ls_seats_Count : List (Nat × List (Nat × LD)) := []
noncomputable def B_seats_Count : Bodies := []
theorem run_seats_Count (x : denL [(.int .u64)]) : run [(96, c_bits_OnesCount64)] L_seats_Count Ls_seats_Count B_seats_Count Tryz.f75 [(.int .u64)] [.i] x = g_seats_Count x := by kernel_rfl
theorem ok_seats_Count : ConOK Tryz.prog 75 c_seats_Count := con_ok (ConsOK.cons ok_bits_OnesCount64 (ConsOK.nil)) L_seats_Count Ls_seats_Count (B := B_seats_Count) (BodiesOK.nil) Tryz.func75 rfl fun x y hf h => (run_seats_Count x).trans (eq_seats_Count x y hf h)
noncomputable def L_seats_bit : List (Nat × LD) := []
noncomputable def Ls_seats_bit : List (Nat × List (Nat × LD)) := []
noncomputable def B_seats_bit : Bodies := []
theorem run_seats_bit (x : denL [.i]) : run [] L_seats_bit Ls_seats_bit B_seats_bit Tryz.f100 [.i] [(.int .u64)] x = g_seats_bit x := by kernel_rfl
theorem ok_seats_bit : ConOK Tryz.prog 100 c_seats_bit := con_ok (ConsOK.nil) L_seats_bit Ls_seats_bit (B := B_seats_bit) (BodiesOK.nil) Tryz.func100 rfl fun x y hf h => (run_seats_bit x).trans (eq_seats_bit x y hf h)
noncomputable def L_ref09_Same : List (Nat × LD) := [(4, ⟨⟨[(0, .hole (.list (.st .seat))), (1, .hole (.list (.st .seat))), (12, .hole .i), (13, .hole .i)], [], []⟩, [(.ret, ⟨[(4, .hole .bool)], [], []⟩), (.exit 0, ⟨[], [], []⟩)], 10, []⟩)]
noncomputable def Ls_ref09_Same : List (Nat × List (Nat × LD)) := []
noncomputable def B_ref09_Same : Bodies := []
theorem run_ref09_Same (x : denL [(.list (.st .seat)), (.list (.st .seat))]) : run [] L_ref09_Same Ls_ref09_Same B_ref09_Same Tryz.f11 [(.list (.st .seat)), (.list (.st .seat))] [.bool] x = g_ref09_Same x := by kernel_rfl
theorem ok_ref09_Same : ConOK Tryz.prog 11 c_ref09_Same := con_ok (ConsOK.nil) L_ref09_Same Ls_ref09_Same (B := B_ref09_Same) (BodiesOK.nil) Tryz.func11 rfl fun x y hf h => (run_ref09_Same x).trans (eq_ref09_Same x y hf h)
noncomputable def L_ref08_Same : List (Nat × LD) := [(4, ⟨⟨[(0, .hole (.list .i)), (1, .hole (.list .i)), (12, .hole .i), (13, .hole .i)], [], []⟩, [(.ret, ⟨[(4, .hole .bool)], [], []⟩), (.exit 0, ⟨[], [], []⟩)], 10, []⟩)]
noncomputable def Ls_ref08_Same : List (Nat × List (Nat × LD)) := []
noncomputable def B_ref08_Same : Bodies := []
theorem run_ref08_Same (x : denL [(.list .i), (.list .i)]) : run [] L_ref08_Same Ls_ref08_Same B_ref08_Same Tryz.f7 [(.list .i), (.list .i)] [.bool] x = g_ref08_Same x := by kernel_rfl
theorem ok_ref08_Same : ConOK Tryz.prog 7 c_ref08_Same := con_ok (ConsOK.nil) L_ref08_Same Ls_ref08_Same (B := B_ref08_Same) (BodiesOK.nil) Tryz.func7 rfl fun x y hf h => (run_ref08_Same x).trans (eq_ref08_Same x y hf h)
noncomputable def L_plan_nodeKey : List (Nat × LD) := []
noncomputable def Ls_plan_nodeKey : List (Nat × List (Nat × LD)) := []
noncomputable def B_plan_nodeKey : Bodies := []
theorem run_plan_nodeKey (x : denL [(.st .tree), .i]) : run [(82, c_shape_Slot), (83, c_ratchet_LeafAt)] L_plan_nodeKey Ls_plan_nodeKey B_plan_nodeKey Tryz.f55 [(.st .tree), .i] [(.st .key)] x = g_plan_nodeKey x := by kernel_rfl
theorem ok_plan_nodeKey : ConOK Tryz.prog 55 c_plan_nodeKey := con_ok (ConsOK.cons ok_shape_Slot (ConsOK.cons ok_ratchet_LeafAt (ConsOK.nil))) L_plan_nodeKey Ls_plan_nodeKey (B := B_plan_nodeKey) (BodiesOK.nil) Tryz.func55 rfl fun x y hf h => (run_plan_nodeKey x).trans (eq_plan_nodeKey x y hf h)
noncomputable def L_plan_leavers : List (Nat × LD) := [(3, ⟨⟨[(2, .ptr 0 []), (5, .row (.st .seat)), (8, .hole (.list .i)), (9, .hole .i), (10, .hole .i)], [(0, (.arr 64 (.st .entry)), .hole (.arr 64 (.st .entry)))], []⟩, [(.exit 0, ⟨[(5, .row (.st .seat))], [], []⟩)], 13, []⟩)]
noncomputable def Ls_plan_leavers : List (Nat × List (Nat × LD)) := []
noncomputable def B_plan_leavers : Bodies := []
theorem run_plan_leavers (x : denL [(.arr 64 (.st .entry)), (.list .i)]) : run [(74, c_roster_Find)] L_plan_leavers Ls_plan_leavers B_plan_leavers Tryz.f49 [(.arr 64 (.st .entry)), (.list .i)] [(.list (.st .seat))] x = g_plan_leavers x := by kernel_rfl
theorem ok_plan_leavers : ConOK Tryz.prog 49 c_plan_leavers := con_ok (ConsOK.cons ok_roster_Find (ConsOK.nil)) L_plan_leavers Ls_plan_leavers (B := B_plan_leavers) (BodiesOK.nil) Tryz.func49 rfl fun x y hf h => (run_plan_leavers x).trans (eq_plan_leavers x y hf h)
noncomputable def L_roster_names : List (Nat × LD) := []
noncomputable def Ls_roster_names : List (Nat × List (Nat × LD)) := [(94, [(2, ⟨⟨[(0, .asl 0 []), (1, .fn 98 [1, 2]), (7, .hole .i), (8, .hole .i)], [(0, (.arr 64 (.st .entry)), .hole (.arr 64 (.st .entry))), (1, .i, .hole .i), (2, .i, .hole .i)], []⟩, [(.ret, ⟨[(4, .hole .i)], [(0, (.arr 64 (.st .entry)), .hole (.arr 64 (.st .entry))), (1, .i, .hole .i), (2, .i, .hole .i)], []⟩), (.exit 0, ⟨[], [(0, (.arr 64 (.st .entry)), .hole (.arr 64 (.st .entry))), (1, .i, .hole .i), (2, .i, .hole .i)], []⟩)], 10, []⟩)])]
noncomputable def B_roster_names : Bodies := [bodyLine 98 Tryz.f98, bodyLine 97 Tryz.f97, bodyLine 94 Tryz.f94]
theorem run_roster_names (x : denL [(.arr 64 (.st .entry)), .i, .i]) : run [] L_roster_names Ls_roster_names B_roster_names Tryz.f79 [(.arr 64 (.st .entry)), .i, .i] [.bool] x = g_roster_names x := by kernel_rfl
theorem ok_roster_names : ConOK Tryz.prog 79 c_roster_names := con_ok (ConsOK.nil) L_roster_names Ls_roster_names (B := B_roster_names) (BodiesOK.cons Tryz.func98 rfl (BodiesOK.cons Tryz.func97 rfl (BodiesOK.cons Tryz.func94 rfl (BodiesOK.nil)))) Tryz.func79 rfl fun x y hf h => (run_roster_names x).trans (eq_roster_names x y hf h)
noncomputable def L_roster_Fits : List (Nat × LD) := []
noncomputable def Ls_roster_Fits : List (Nat × List (Nat × LD)) := [(73, [(2, ⟨⟨[(1, .hole .bool), (2, .hole .i), (3, .ptr 3 []), (4, .ptr 0 []), (11, .hole (.list .i)), (12, .hole .i), (13, .hole .i)], [(0, (.arr 64 (.st .entry)), .hole (.arr 64 (.st .entry))), (1, (.st .batch), .hole (.st .batch)), (3, .bool, .mp 2)], [(2, .i, .i)]⟩, [(.ret, ⟨[(8, .hole .i)], [(0, (.arr 64 (.st .entry)), .hole (.arr 64 (.st .entry))), (1, (.st .batch), .hole (.st .batch)), (3, .bool, .mp 2)], [(2, .i, .i)]⟩), (.exit 0, ⟨[], [(0, (.arr 64 (.st .entry)), .hole (.arr 64 (.st .entry))), (1, (.st .batch), .hole (.st .batch)), (3, .bool, .mp 2)], [(2, .i, .i)]⟩)], 10, []⟩)])]
noncomputable def B_roster_Fits : Bodies := [bodyLine 73 Tryz.f73]
theorem run_roster_Fits (x : denL [(.arr 64 (.st .entry)), (.st .batch)]) : run [(72, c_roster_Check), (74, c_roster_Find), (56, c_roster_Taken), (75, c_seats_Count)] L_roster_Fits Ls_roster_Fits B_roster_Fits Tryz.f47 [(.arr 64 (.st .entry)), (.st .batch)] [.i] x = g_roster_Fits x := by kernel_rfl
theorem ok_roster_Fits : ConOK Tryz.prog 47 c_roster_Fits := con_ok (ConsOK.cons ok_roster_Check (ConsOK.cons ok_roster_Find (ConsOK.cons ok_roster_Taken (ConsOK.cons ok_seats_Count (ConsOK.nil))))) L_roster_Fits Ls_roster_Fits (B := B_roster_Fits) (BodiesOK.cons Tryz.func73 rfl (BodiesOK.nil)) Tryz.func47 rfl fun x y hf h => (run_roster_Fits x).trans (eq_roster_Fits x y hf h)
end Go.Proofs.YtmjobjaajnjgjaaGreatDoor
end

section
namespace Go.Proofs.YtmjobjaajnjgjaaGreatDoor
open Go Go.Co Go.Co.N Go.Proofs
theorem ok_seats_Take : ConOK Tryz.prog 80 c_seats_Take := ok_seats_Take_of ok_seats_Count ok_seats_bit
noncomputable def L_roster_Move : List (Nat × LD) := [(11, ⟨⟨[(2, .hole .i), (3, .hole .i), (4, .ptr 0 []), (5, .ptr 1 []), (8, .ptr 2 []), (13, .row (.st .seat)), (14, .nils), (49, .hole (.list .i)), (50, .hole .i), (51, .hole .i)], [(0, (.arr 64 (.st .entry)), .hole (.arr 64 (.st .entry))), (1, (.st .batch), .hole (.st .batch)), (2, (.arr 64 (.st .entry)), .hole (.arr 64 (.st .entry)))], []⟩, [(.exit 1, ⟨[(2, .hole .i), (3, .hole .i), (4, .ptr 0 []), (5, .ptr 1 []), (8, .ptr 2 []), (13, .row (.st .seat)), (14, .nils)], [(0, (.arr 64 (.st .entry)), .hole (.arr 64 (.st .entry))), (1, (.st .batch), .hole (.st .batch)), (2, (.arr 64 (.st .entry)), .hole (.arr 64 (.st .entry)))], []⟩)], 13, []⟩), (19, ⟨⟨[(2, .hole .i), (3, .hole .i), (4, .ptr 0 []), (5, .ptr 1 []), (8, .ptr 2 []), (13, .row (.st .seat)), (14, .row (.st .seat)), (78, .hole (.list .i)), (79, .hole .i), (80, .hole .i)], [(0, (.arr 64 (.st .entry)), .hole (.arr 64 (.st .entry))), (1, (.st .batch), .hole (.st .batch)), (2, (.arr 64 (.st .entry)), .hole (.arr 64 (.st .entry)))], []⟩, [(.exit 3, ⟨[(4, .ptr 0 []), (8, .ptr 2 []), (13, .row (.st .seat)), (14, .row (.st .seat))], [(0, (.arr 64 (.st .entry)), .hole (.arr 64 (.st .entry))), (2, (.arr 64 (.st .entry)), .hole (.arr 64 (.st .entry)))], []⟩)], 14, []⟩)]
noncomputable def Ls_roster_Move : List (Nat × List (Nat × LD)) := []
noncomputable def B_roster_Move : Bodies := []
theorem run_roster_Move (x : denL [(.arr 64 (.st .entry)), (.st .batch), .i, .i]) : run [(47, c_roster_Fits), (79, c_roster_names), (74, c_roster_Find), (56, c_roster_Taken), (80, c_seats_Take)] L_roster_Move Ls_roster_Move B_roster_Move Tryz.f52 [(.arr 64 (.st .entry)), (.st .batch), .i, .i] [(.arr 64 (.st .entry)), (.list (.st .seat)), (.list (.st .seat)), .i] x = g_roster_Move x := by kernel_rfl
theorem ok_roster_Move : ConOK Tryz.prog 52 c_roster_Move := con_ok (ConsOK.cons ok_roster_Fits (ConsOK.cons ok_roster_names (ConsOK.cons ok_roster_Find (ConsOK.cons ok_roster_Taken (ConsOK.cons ok_seats_Take (ConsOK.nil)))))) L_roster_Move Ls_roster_Move (B := B_roster_Move) (BodiesOK.nil) Tryz.func52 rfl fun x y hf h => (run_roster_Move x).trans (eq_roster_Move x y hf h)
noncomputable def L_plan_step : List (Nat × LD) := []
noncomputable def Ls_plan_step : List (Nat × List (Nat × LD)) := []
noncomputable def B_plan_step : Bodies := []
theorem run_plan_step (x : denL [(.st .tree), (.st .batch)]) : run [(46, c_keytree_Check), (47, c_roster_Fits), (49, c_plan_leavers), (48, c_plan_Replaced), (50, c_bits_OnesCount32), (51, c_ratchet_Turn), (52, c_roster_Move)] L_plan_step Ls_plan_step B_plan_step Tryz.f27 [(.st .tree), (.st .batch)] [(.st .tree), (.st .rekey), .i] x = g_plan_step x := by kernel_rfl
theorem ok_plan_step : ConOK Tryz.prog 27 c_plan_step := con_ok (ConsOK.cons ok_keytree_Check (ConsOK.cons ok_roster_Fits (ConsOK.cons ok_plan_leavers (ConsOK.cons ok_plan_Replaced (ConsOK.cons ok_bits_OnesCount32 (ConsOK.cons ok_ratchet_Turn (ConsOK.cons ok_roster_Move (ConsOK.nil)))))))) L_plan_step Ls_plan_step (B := B_plan_step) (BodiesOK.nil) Tryz.func27 rfl fun x y hf h => (run_plan_step x).trans (eq_plan_step x y hf h)
noncomputable def L_plan_items : List (Nat × LD) := [(8, ⟨⟨[(3, .ptr 1 []), (5, .ptr 2 []), (6, .fn 53 [0, 2]), (7, .hole (.int .u64)), (8, .hole (.int .u32)), (9, .hole .i), (10, .hole .i)], [(0, (.st .tree), .hole (.st .tree)), (1, (.st .rekey), .hole (.st .rekey)), (2, (.list (.st .item)), .row (.st .item))], []⟩, [(.exit 2, ⟨[(3, .ptr 1 []), (5, .ptr 2 []), (6, .fn 53 [0, 2]), (7, .hole (.int .u64)), (8, .hole (.int .u32)), (9, .hole .i)], [(0, (.st .tree), .hole (.st .tree)), (1, (.st .rekey), .hole (.st .rekey)), (2, (.list (.st .item)), .row (.st .item))], []⟩)], 11, []⟩), (5, ⟨⟨[(3, .ptr 1 []), (5, .ptr 2 []), (6, .fn 53 [0, 2]), (7, .hole (.int .u64)), (8, .hole (.int .u32)), (9, .hole .i)], [(0, (.st .tree), .hole (.st .tree)), (1, (.st .rekey), .hole (.st .rekey)), (2, (.list (.st .item)), .row (.st .item))], []⟩, [(.exit 0, ⟨[(3, .ptr 1 []), (5, .ptr 2 []), (6, .fn 53 [0, 2]), (8, .hole (.int .u32))], [(0, (.st .tree), .hole (.st .tree)), (1, (.st .rekey), .hole (.st .rekey)), (2, (.list (.st .item)), .row (.st .item))], []⟩)], 21, []⟩), (18, ⟨⟨[(5, .ptr 2 []), (6, .fn 53 [0, 2]), (8, .hole (.int .u32)), (13, .ptr 25 []), (54, .hole (.list (.st .seat))), (55, .hole .i), (56, .hole .i), (66, .hole (.arr 3 .i)), (67, .hole .i)], [(0, (.st .tree), .hole (.st .tree)), (2, (.list (.st .item)), .row (.st .item)), (25, (.st .seat), .hole (.st .seat))], []⟩, [(.exit 6, ⟨[(5, .ptr 2 []), (6, .fn 53 [0, 2]), (8, .hole (.int .u32)), (54, .hole (.list (.st .seat))), (55, .hole .i), (56, .hole .i)], [(0, (.st .tree), .hole (.st .tree)), (2, (.list (.st .item)), .row (.st .item))], []⟩)], 11, []⟩), (14, ⟨⟨[(5, .ptr 2 []), (6, .fn 53 [0, 2]), (8, .hole (.int .u32)), (54, .hole (.list (.st .seat))), (55, .hole .i), (56, .hole .i)], [(0, (.st .tree), .hole (.st .tree)), (2, (.list (.st .item)), .row (.st .item))], []⟩, [(.exit 4, ⟨[(5, .ptr 2 [])], [(2, (.list (.st .item)), .row (.st .item))], []⟩)], 23, []⟩)]
noncomputable def Ls_plan_items : List (Nat × List (Nat × LD)) := []
noncomputable def B_plan_items : Bodies := [bodyLine 53 Tryz.f53]
theorem run_plan_items (x : denL [(.st .tree), (.st .rekey)]) : run [(55, c_plan_nodeKey), (54, c_key_Seal), (56, c_roster_Taken), (48, c_plan_Replaced), (57, c_shape_Child), (58, c_shape_Mask), (59, c_shape_Path), (60, c_shape_Leaf)] L_plan_items Ls_plan_items B_plan_items Tryz.f28 [(.st .tree), (.st .rekey)] [(.list (.st .item))] x = g_plan_items x := by kernel_rfl
theorem ok_plan_items : ConOK Tryz.prog 28 c_plan_items := con_ok (ConsOK.cons ok_plan_nodeKey (ConsOK.cons ok_key_Seal (ConsOK.cons ok_roster_Taken (ConsOK.cons ok_plan_Replaced (ConsOK.cons ok_shape_Child (ConsOK.cons ok_shape_Mask (ConsOK.cons ok_shape_Path (ConsOK.cons ok_shape_Leaf (ConsOK.nil))))))))) L_plan_items Ls_plan_items (B := B_plan_items) (BodiesOK.cons Tryz.func53 rfl (BodiesOK.nil)) Tryz.func28 rfl fun x y hf h => (run_plan_items x).trans (eq_plan_items x y hf h)
noncomputable def L_plan_Next : List (Nat × LD) := []
noncomputable def Ls_plan_Next : List (Nat × List (Nat × LD)) := []
noncomputable def B_plan_Next : Bodies := []
theorem run_plan_Next (x : denL [(.st .tree), (.st .batch)]) : run [(27, c_plan_step), (28, c_plan_items)] L_plan_Next Ls_plan_Next B_plan_Next Tryz.f14 [(.st .tree), (.st .batch)] [(.st .tree), (.st .rekey), .i] x = g_plan_Next x := by kernel_rfl
theorem ok_plan_Next : ConOK Tryz.prog 14 c_plan_Next := con_ok (ConsOK.cons ok_plan_step (ConsOK.cons ok_plan_items (ConsOK.nil))) L_plan_Next Ls_plan_Next (B := B_plan_Next) (BodiesOK.nil) Tryz.func14 rfl fun x y hf h => (run_plan_Next x).trans (eq_plan_Next x y hf h)
end Go.Proofs.YtmjobjaajnjgjaaGreatDoor
end

section
namespace Go.Proofs.YtmjobjaajnjgjaaGreatDoor
open Go Go.Co Go.Co.N Go.Proofs
noncomputable def L_bits_fits : List (Nat × LD) := []
noncomputable def Ls_bits_fits : List (Nat × List (Nat × LD)) := []
noncomputable def B_bits_fits : Bodies := []
theorem run_bits_fits (x : denL [(.int .u64), .i]) : run [] L_bits_fits Ls_bits_fits B_bits_fits Tryz.f30 [(.int .u64), .i] [.bool] x = g_bits_fits x := by kernel_rfl
theorem ok_bits_fits : ConOK Tryz.prog 30 c_bits_fits := con_ok (ConsOK.nil) L_bits_fits Ls_bits_fits (B := B_bits_fits) (BodiesOK.nil) Tryz.func30 rfl fun x y hf h => (run_bits_fits x).trans (eq_bits_fits x y hf h)
noncomputable def L_record_between : List (Nat × LD) := []
noncomputable def Ls_record_between : List (Nat × List (Nat × LD)) := []
noncomputable def B_record_between : Bodies := []
theorem run_record_between (x : denL [.i, .i, .i]) : run [] L_record_between Ls_record_between B_record_between Tryz.f29 [.i, .i, .i] [.bool] x = g_record_between x := by kernel_rfl
theorem ok_record_between : ConOK Tryz.prog 29 c_record_between := con_ok (ConsOK.nil) L_record_between Ls_record_between (B := B_record_between) (BodiesOK.nil) Tryz.func29 rfl fun x y hf h => (run_record_between x).trans (eq_record_between x y hf h)
noncomputable def L_record_right : List (Nat × LD) := [(4, ⟨⟨[(1, .ptr 0 []), (28, .hole (.list .i)), (29, .hole .i), (30, .hole .i)], [(0, (.st .record), .hole (.st .record))], []⟩, [(.ret, ⟨[(2, .hole .bool)], [], []⟩), (.exit 0, ⟨[(1, .ptr 0 [])], [(0, (.st .record), .hole (.st .record))], []⟩)], 10, []⟩), (10, ⟨⟨[(39, .hole (.list (.st .seat))), (40, .hole .i), (41, .hole .i)], [], []⟩, [(.ret, ⟨[(2, .hole .bool)], [], []⟩), (.exit 2, ⟨[], [], []⟩)], 11, []⟩)]
noncomputable def Ls_record_right : List (Nat × List (Nat × LD)) := []
noncomputable def B_record_right : Bodies := []
theorem run_record_right (x : denL [(.st .record)]) : run [(29, c_record_between)] L_record_right Ls_record_right B_record_right Tryz.f16 [(.st .record)] [.bool] x = g_record_right x := by kernel_rfl
theorem ok_record_right : ConOK Tryz.prog 16 c_record_right := con_ok (ConsOK.cons ok_record_between (ConsOK.nil)) L_record_right Ls_record_right (B := B_record_right) (BodiesOK.nil) Tryz.func16 rfl fun x y hf h => (run_record_right x).trans (eq_record_right x y hf h)
noncomputable def L_record_Write : List (Nat × LD) := [(9, ⟨⟨[(1, .ptr 0 []), (4, .ptr 2 []), (5, .fn 18 [2]), (29, .hole (.list .i)), (30, .hole .i), (31, .hole .i)], [(1, (.st .writer), .agv  .writer (.cons (.hole (.st .counter)) (.cons (.row (.int .u8)) (.nil)))), (2, .bool, .ptr 1 [])], []⟩, [(.exit 0, ⟨[(1, .ptr 0 []), (4, .ptr 2 []), (5, .fn 18 [2])], [(1, (.st .writer), .agv  .writer (.cons (.hole (.st .counter)) (.cons (.row (.int .u8)) (.nil)))), (2, .bool, .ptr 1 [])], []⟩)], 98, [1000000, 1, 2, 135]⟩), (15, ⟨⟨[(4, .ptr 2 []), (5, .fn 18 [2]), (45, .hole (.list (.st .seat))), (46, .hole .i), (47, .hole .i)], [(1, (.st .writer), .agv  .writer (.cons (.hole (.st .counter)) (.cons (.row (.int .u8)) (.nil)))), (2, .bool, .ptr 1 [])], []⟩, [(.exit 2, ⟨[(4, .ptr 2 [])], [(1, (.st .writer), .agv  .writer (.cons (.hole (.st .counter)) (.cons (.row (.int .u8)) (.nil)))), (2, .bool, .ptr 1 [])], []⟩)], 165, [1000000, 1, 2, 299]⟩)]
noncomputable def Ls_record_Write : List (Nat × List (Nat × LD)) := [(19, [(1000000, ⟨⟨[(0, .ptr 1 []), (1, .hole (.int .u64)), (2, .hole .i)], [(1, (.st .writer), .agv  .writer (.cons (.hole (.st .counter)) (.cons (.row (.int .u8)) (.nil))))], []⟩, [(.ret, ⟨[(6, .hole .i)], [(1, (.st .writer), .agv  .writer (.cons (.hole (.st .counter)) (.cons (.row (.int .u8)) (.nil))))], []⟩)], 66, [1000000, 1, 367]⟩), (4, ⟨⟨[(0, .ptr 1 []), (1, .hole (.int .u64)), (7, .hole .i)], [(1, (.st .writer), .agv  .writer (.cons (.hole (.st .counter)) (.cons (.row (.int .u8)) (.nil))))], []⟩, [(.exit 0, ⟨[], [(1, (.st .writer), .agv  .writer (.cons (.hole (.st .counter)) (.cons (.row (.int .u8)) (.nil))))], []⟩)], 34, [1000000, 1, 433]⟩), (1000000, ⟨⟨[(0, .ptr 1 []), (1, .hole (.int .u64)), (2, .hole .i)], [(1, (.st .writer), .agv  .writer (.cons (.hole (.st .counter)) (.cons (.row (.int .u8)) (.nil))))], []⟩, [(.ret, ⟨[(6, .hole .i)], [(1, (.st .writer), .agv  .writer (.cons (.hole (.st .counter)) (.cons (.row (.int .u8)) (.nil))))], []⟩)], 66, [1000000, 1, 365]⟩), (4, ⟨⟨[(0, .ptr 1 []), (1, .hole (.int .u64)), (7, .hole .i)], [(1, (.st .writer), .agv  .writer (.cons (.hole (.st .counter)) (.cons (.row (.int .u8)) (.nil))))], []⟩, [(.exit 0, ⟨[], [(1, (.st .writer), .agv  .writer (.cons (.hole (.st .counter)) (.cons (.row (.int .u8)) (.nil))))], []⟩)], 34, [1000000, 1, 367]⟩), (4, ⟨⟨[(0, .ptr 1 []), (1, .hole (.int .u64)), (7, .hole .i)], [(1, (.st .writer), .agv  .writer (.cons (.hole (.st .counter)) (.cons (.row (.int .u8)) (.nil))))], []⟩, [(.exit 0, ⟨[], [(1, (.st .writer), .agv  .writer (.cons (.hole (.st .counter)) (.cons (.row (.int .u8)) (.nil))))], []⟩)], 34, [1000000, 1, 299]⟩), (1000000, ⟨⟨[(0, .ptr 1 []), (1, .hole (.int .u64)), (2, .hole .i)], [(1, (.st .writer), .agv  .writer (.cons (.hole (.st .counter)) (.cons (.row (.int .u8)) (.nil))))], []⟩, [(.ret, ⟨[(6, .hole .i)], [(1, (.st .writer), .agv  .writer (.cons (.hole (.st .counter)) (.cons (.row (.int .u8)) (.nil))))], []⟩)], 66, [1000000, 1, 201]⟩), (4, ⟨⟨[(0, .ptr 1 []), (1, .hole (.int .u64)), (7, .hole .i)], [(1, (.st .writer), .agv  .writer (.cons (.hole (.st .counter)) (.cons (.row (.int .u8)) (.nil))))], []⟩, [(.exit 0, ⟨[], [(1, (.st .writer), .agv  .writer (.cons (.hole (.st .counter)) (.cons (.row (.int .u8)) (.nil))))], []⟩)], 34, [1000000, 1, 202]⟩), (1000000, ⟨⟨[(0, .ptr 1 []), (1, .hole (.int .u64)), (2, .hole .i)], [(1, (.st .writer), .agv  .writer (.cons (.hole (.st .counter)) (.cons (.row (.int .u8)) (.nil))))], []⟩, [(.ret, ⟨[(6, .hole .i)], [(1, (.st .writer), .agv  .writer (.cons (.hole (.st .counter)) (.cons (.row (.int .u8)) (.nil))))], []⟩)], 66, [1000000, 1, 69]⟩), (4, ⟨⟨[(0, .ptr 1 []), (1, .hole (.int .u64)), (7, .hole .i)], [(1, (.st .writer), .agv  .writer (.cons (.hole (.st .counter)) (.cons (.row (.int .u8)) (.nil))))], []⟩, [(.exit 0, ⟨[], [(1, (.st .writer), .agv  .writer (.cons (.hole (.st .counter)) (.cons (.row (.int .u8)) (.nil))))], []⟩)], 34, [1000000, 1, 135]⟩), (1000000, ⟨⟨[(0, .ptr 1 []), (1, .hole (.int .u64)), (2, .hole .i)], [(1, (.st .writer), .agv  .writer (.cons (.hole (.st .counter)) (.cons (.row (.int .u8)) (.nil))))], []⟩, [(.ret, ⟨[(6, .hole .i)], [(1, (.st .writer), .agv  .writer (.cons (.hole (.st .counter)) (.cons (.row (.int .u8)) (.nil))))], []⟩)], 66, [1000000, 1, 3]⟩), (4, ⟨⟨[(0, .ptr 1 []), (1, .hole (.int .u64)), (7, .hole .i)], [(1, (.st .writer), .agv  .writer (.cons (.hole (.st .counter)) (.cons (.row (.int .u8)) (.nil))))], []⟩, [(.exit 0, ⟨[], [(1, (.st .writer), .agv  .writer (.cons (.hole (.st .counter)) (.cons (.row (.int .u8)) (.nil))))], []⟩)], 34, [1000000, 1, 69]⟩), (1000000, ⟨⟨[(0, .ptr 1 []), (1, .hole (.int .u64)), (2, .hole .i)], [(1, (.st .writer), .agv  .writer (.cons (.hole (.st .counter)) (.cons (.row (.int .u8)) (.nil))))], []⟩, [(.ret, ⟨[(6, .hole .i)], [(1, (.st .writer), .agv  .writer (.cons (.hole (.st .counter)) (.cons (.row (.int .u8)) (.nil))))], []⟩)], 66, [1000000, 1]⟩), (4, ⟨⟨[(0, .ptr 1 []), (1, .hole (.int .u64)), (7, .hole .i)], [(1, (.st .writer), .agv  .writer (.cons (.hole (.st .counter)) (.cons (.row (.int .u8)) (.nil))))], []⟩, [(.exit 0, ⟨[], [(1, (.st .writer), .agv  .writer (.cons (.hole (.st .counter)) (.cons (.row (.int .u8)) (.nil))))], []⟩)], 34, [1000000, 1, 3]⟩)])]
noncomputable def B_record_Write : Bodies := [bodyLine 17 Tryz.f17, bodyLine 18 Tryz.f18, bodyLine 19 Tryz.f19, bodyLine 31 Tryz.f31, bodyLine 32 Tryz.f32, bodyLine 20 Tryz.f20]
theorem run_record_Write (x : denL [(.st .record)]) : run [(16, c_record_right), (30, c_bits_fits)] L_record_Write Ls_record_Write B_record_Write Tryz.f8 [(.st .record)] [.str, .i] x = g_record_Write x := by kernel_rfl
theorem ok_record_Write : ConOK Tryz.prog 8 c_record_Write := con_ok (ConsOK.cons ok_record_right (ConsOK.cons ok_bits_fits (ConsOK.nil))) L_record_Write Ls_record_Write (B := B_record_Write) (BodiesOK.cons Tryz.func17 rfl (BodiesOK.cons Tryz.func18 rfl (BodiesOK.cons Tryz.func19 rfl (BodiesOK.cons Tryz.func31 rfl (BodiesOK.cons Tryz.func32 rfl (BodiesOK.cons Tryz.func20 rfl (BodiesOK.nil))))))) Tryz.func8 rfl fun x y hf h => (run_record_Write x).trans (eq_record_Write x y hf h)
noncomputable def L_ref13_Same : List (Nat × LD) := []
noncomputable def Ls_ref13_Same : List (Nat × List (Nat × LD)) := []
noncomputable def B_ref13_Same : Bodies := []
theorem run_ref13_Same (x : denL [(.st .record), (.st .record)]) : run [(7, c_ref08_Same), (11, c_ref09_Same)] L_ref13_Same Ls_ref13_Same B_ref13_Same Tryz.f10 [(.st .record), (.st .record)] [.bool] x = g_ref13_Same x := by kernel_rfl
theorem ok_ref13_Same : ConOK Tryz.prog 10 c_ref13_Same := con_ok (ConsOK.cons ok_ref08_Same (ConsOK.cons ok_ref09_Same (ConsOK.nil))) L_ref13_Same Ls_ref13_Same (B := B_ref13_Same) (BodiesOK.nil) Tryz.func10 rfl fun x y hf h => (run_ref13_Same x).trans (eq_ref13_Same x y hf h)
noncomputable def L_ref13_Of : List (Nat × LD) := []
noncomputable def Ls_ref13_Of : List (Nat × List (Nat × LD)) := []
noncomputable def B_ref13_Of : Bodies := []
theorem run_ref13_Of (x : denL [(.st .tree), (.st .batch)]) : run [(13, c_ref12_Next)] L_ref13_Of Ls_ref13_Of B_ref13_Of Tryz.f5 [(.st .tree), (.st .batch)] [(.st .record), .i] x = g_ref13_Of x := by kernel_rfl
theorem ok_ref13_Of : ConOK Tryz.prog 5 c_ref13_Of := con_ok (ConsOK.cons ok_ref12_Next (ConsOK.nil)) L_ref13_Of Ls_ref13_Of (B := B_ref13_Of) (BodiesOK.nil) Tryz.func5 rfl fun x y hf h => (run_ref13_Of x).trans (eq_ref13_Of x y hf h)
noncomputable def L_record_Of : List (Nat × LD) := []
noncomputable def Ls_record_Of : List (Nat × List (Nat × LD)) := []
noncomputable def B_record_Of : Bodies := []
theorem run_record_Of (x : denL [(.st .tree), (.st .batch)]) : run [(14, c_plan_Next), (15, c_slices_Clone)] L_record_Of Ls_record_Of B_record_Of Tryz.f6 [(.st .tree), (.st .batch)] [(.st .record), .i] x = g_record_Of x := by kernel_rfl
theorem ok_record_Of : ConOK Tryz.prog 6 c_record_Of := con_ok (ConsOK.cons ok_plan_Next (ConsOK.cons ok_slices_Clone (ConsOK.nil))) L_record_Of Ls_record_Of (B := B_record_Of) (BodiesOK.nil) Tryz.func6 rfl fun x y hf h => (run_record_Of x).trans (eq_record_Of x y hf h)
noncomputable def L_law13_lives : List (Nat × LD) := []
noncomputable def Ls_law13_lives : List (Nat × List (Nat × LD)) := []
noncomputable def B_law13_lives : Bodies := []
theorem run_law13_lives (x : denL []) : run [(12, c_ref11_Start), (6, c_record_Of), (8, c_record_Write)] L_law13_lives Ls_law13_lives B_law13_lives Tryz.f4 [] [.bool] x = g_law13_lives x := by kernel_rfl
theorem ok_law13_lives : ConOK Tryz.prog 4 c_law13_lives := con_ok (ConsOK.cons ok_ref11_Start (ConsOK.cons ok_record_Of (ConsOK.cons ok_record_Write (ConsOK.nil)))) L_law13_lives Ls_law13_lives (B := B_law13_lives) (BodiesOK.nil) Tryz.func4 rfl fun x y hf h => (run_law13_lives x).trans (eq_law13_lives x y hf h)
end Go.Proofs.YtmjobjaajnjgjaaGreatDoor
end

section
namespace Go.Proofs.YtmjobjaajnjgjaaGreatDoor
open Go Go.Co Go.Co.N Go.Proofs
noncomputable def LF_roster_Move : List (Nat × LD) := [(11, ⟨⟨[(2, .hole .i), (3, .hole .i), (4, .ptr 0 []), (5, .ptr 1 []), (8, .ptr 2 []), (13, .row (.st .seat)), (14, .nils), (49, .hole (.list .i)), (50, .hole .i), (51, .hole .i)], [(0, (.arr 64 (.st .entry)), .hole (.arr 64 (.st .entry))), (1, (.st .batch), .hole (.st .batch)), (2, (.arr 64 (.st .entry)), .hole (.arr 64 (.st .entry)))], []⟩, [(.exit 1, ⟨[(2, .hole .i), (3, .hole .i), (4, .ptr 0 []), (5, .ptr 1 []), (8, .ptr 2 []), (13, .row (.st .seat)), (14, .nils)], [(0, (.arr 64 (.st .entry)), .hole (.arr 64 (.st .entry))), (1, (.st .batch), .hole (.st .batch)), (2, (.arr 64 (.st .entry)), .hole (.arr 64 (.st .entry)))], []⟩)], 13, []⟩), (19, ⟨⟨[(2, .hole .i), (3, .hole .i), (4, .ptr 0 []), (5, .ptr 1 []), (8, .ptr 2 []), (13, .row (.st .seat)), (14, .row (.st .seat)), (78, .hole (.list .i)), (79, .hole .i), (80, .hole .i)], [(0, (.arr 64 (.st .entry)), .hole (.arr 64 (.st .entry))), (1, (.st .batch), .hole (.st .batch)), (2, (.arr 64 (.st .entry)), .hole (.arr 64 (.st .entry)))], []⟩, [(.exit 3, ⟨[(4, .ptr 0 []), (8, .ptr 2 []), (13, .row (.st .seat)), (14, .row (.st .seat))], [(0, (.arr 64 (.st .entry)), .hole (.arr 64 (.st .entry))), (2, (.arr 64 (.st .entry)), .hole (.arr 64 (.st .entry)))], []⟩)], 14, []⟩)]
noncomputable def LsF_roster_Move : List (Nat × List (Nat × LD)) := []
noncomputable def BF_roster_Move : Bodies := []
theorem frun_roster_Move (x : denL [(.arr 64 (.st .entry)), (.st .batch), .i, .i]) : frun [(47, c_roster_Fits), (79, c_roster_names), (74, c_roster_Find), (56, c_roster_Taken), (80, c_seats_Take)] [] LF_roster_Move LsF_roster_Move BF_roster_Move Tryz.f52 [(.arr 64 (.st .entry)), (.st .batch), .i, .i] [(.arr 64 (.st .entry)), (.list (.st .seat)), (.list (.st .seat)), .i] x = g_roster_Move x := by kernel_rfl
theorem fok_roster_Move : FConOK Tryz.prog 52 c_roster_Move := fcon_ok (FConsOK.cons rfl ok_roster_Fits (FConsOK.cons rfl ok_roster_names (FConsOK.cons rfl ok_roster_Find (FConsOK.cons rfl ok_roster_Taken (FConsOK.cons rfl ok_seats_Take (FConsOK.nil)))))) LF_roster_Move LsF_roster_Move (B := BF_roster_Move) (BodiesOK.nil) Tryz.func52 rfl fun x y hf h => (frun_roster_Move x).trans (eq_roster_Move x y hf h)
noncomputable def LF_plan_step : List (Nat × LD) := []
noncomputable def LsF_plan_step : List (Nat × List (Nat × LD)) := []
noncomputable def BF_plan_step : Bodies := []
theorem frun_plan_step (x : denL [(.st .tree), (.st .batch)]) : frun [(46, c_keytree_Check), (47, c_roster_Fits), (49, c_plan_leavers), (48, c_plan_Replaced), (50, c_bits_OnesCount32), (51, c_ratchet_Turn), (52, c_roster_Move)] [52] LF_plan_step LsF_plan_step BF_plan_step Tryz.f27 [(.st .tree), (.st .batch)] [(.st .tree), (.st .rekey), .i] x = g_plan_step x := by kernel_rfl
theorem fok_plan_step : FConOK Tryz.prog 27 c_plan_step := fcon_ok (FConsOK.cons rfl ok_keytree_Check (FConsOK.cons rfl ok_roster_Fits (FConsOK.cons rfl ok_plan_leavers (FConsOK.cons rfl ok_plan_Replaced (FConsOK.cons rfl ok_bits_OnesCount32 (FConsOK.cons rfl ok_ratchet_Turn (FConsOK.fcons rfl fok_roster_Move (FConsOK.nil)))))))) LF_plan_step LsF_plan_step (B := BF_plan_step) (BodiesOK.nil) Tryz.func27 rfl fun x y hf h => (frun_plan_step x).trans (eq_plan_step x y hf h)
noncomputable def LF_plan_items : List (Nat × LD) := [(8, ⟨⟨[(3, .ptr 1 []), (5, .ptr 2 []), (6, .fn 53 [0, 2]), (7, .hole (.int .u64)), (8, .hole (.int .u32)), (9, .hole .i), (10, .hole .i)], [(0, (.st .tree), .hole (.st .tree)), (1, (.st .rekey), .hole (.st .rekey)), (2, (.list (.st .item)), .row (.st .item))], []⟩, [(.exit 2, ⟨[(3, .ptr 1 []), (5, .ptr 2 []), (6, .fn 53 [0, 2]), (7, .hole (.int .u64)), (8, .hole (.int .u32)), (9, .hole .i)], [(0, (.st .tree), .hole (.st .tree)), (1, (.st .rekey), .hole (.st .rekey)), (2, (.list (.st .item)), .row (.st .item))], []⟩)], 11, []⟩), (5, ⟨⟨[(3, .ptr 1 []), (5, .ptr 2 []), (6, .fn 53 [0, 2]), (7, .hole (.int .u64)), (8, .hole (.int .u32)), (9, .hole .i)], [(0, (.st .tree), .hole (.st .tree)), (1, (.st .rekey), .hole (.st .rekey)), (2, (.list (.st .item)), .row (.st .item))], []⟩, [(.exit 0, ⟨[(3, .ptr 1 []), (5, .ptr 2 []), (6, .fn 53 [0, 2]), (8, .hole (.int .u32))], [(0, (.st .tree), .hole (.st .tree)), (1, (.st .rekey), .hole (.st .rekey)), (2, (.list (.st .item)), .row (.st .item))], []⟩)], 21, []⟩), (18, ⟨⟨[(5, .ptr 2 []), (6, .fn 53 [0, 2]), (8, .hole (.int .u32)), (13, .ptr 25 []), (54, .hole (.list (.st .seat))), (55, .hole .i), (56, .hole .i), (66, .hole (.arr 3 .i)), (67, .hole .i)], [(0, (.st .tree), .hole (.st .tree)), (2, (.list (.st .item)), .row (.st .item)), (25, (.st .seat), .hole (.st .seat))], []⟩, [(.exit 6, ⟨[(5, .ptr 2 []), (6, .fn 53 [0, 2]), (8, .hole (.int .u32)), (54, .hole (.list (.st .seat))), (55, .hole .i), (56, .hole .i)], [(0, (.st .tree), .hole (.st .tree)), (2, (.list (.st .item)), .row (.st .item))], []⟩)], 11, []⟩), (14, ⟨⟨[(5, .ptr 2 []), (6, .fn 53 [0, 2]), (8, .hole (.int .u32)), (54, .hole (.list (.st .seat))), (55, .hole .i), (56, .hole .i)], [(0, (.st .tree), .hole (.st .tree)), (2, (.list (.st .item)), .row (.st .item))], []⟩, [(.exit 4, ⟨[(5, .ptr 2 [])], [(2, (.list (.st .item)), .row (.st .item))], []⟩)], 23, []⟩)]
noncomputable def LsF_plan_items : List (Nat × List (Nat × LD)) := []
noncomputable def BF_plan_items : Bodies := [bodyLine 53 Tryz.f53]
theorem frun_plan_items (x : denL [(.st .tree), (.st .rekey)]) : frun [(55, c_plan_nodeKey), (54, c_key_Seal), (56, c_roster_Taken), (48, c_plan_Replaced), (57, c_shape_Child), (58, c_shape_Mask), (59, c_shape_Path), (60, c_shape_Leaf)] [] LF_plan_items LsF_plan_items BF_plan_items Tryz.f28 [(.st .tree), (.st .rekey)] [(.list (.st .item))] x = g_plan_items x := by kernel_rfl
theorem fok_plan_items : FConOK Tryz.prog 28 c_plan_items := fcon_ok (FConsOK.cons rfl ok_plan_nodeKey (FConsOK.cons rfl ok_key_Seal (FConsOK.cons rfl ok_roster_Taken (FConsOK.cons rfl ok_plan_Replaced (FConsOK.cons rfl ok_shape_Child (FConsOK.cons rfl ok_shape_Mask (FConsOK.cons rfl ok_shape_Path (FConsOK.cons rfl ok_shape_Leaf (FConsOK.nil))))))))) LF_plan_items LsF_plan_items (B := BF_plan_items) (BodiesOK.cons Tryz.func53 rfl (BodiesOK.nil)) Tryz.func28 rfl fun x y hf h => (frun_plan_items x).trans (eq_plan_items x y hf h)
noncomputable def LF_plan_Next : List (Nat × LD) := []
noncomputable def LsF_plan_Next : List (Nat × List (Nat × LD)) := []
noncomputable def BF_plan_Next : Bodies := []
theorem frun_plan_Next (x : denL [(.st .tree), (.st .batch)]) : frun [(27, c_plan_step), (28, c_plan_items)] [27, 28] LF_plan_Next LsF_plan_Next BF_plan_Next Tryz.f14 [(.st .tree), (.st .batch)] [(.st .tree), (.st .rekey), .i] x = g_plan_Next x := by kernel_rfl
theorem fok_plan_Next : FConOK Tryz.prog 14 c_plan_Next := fcon_ok (FConsOK.fcons rfl fok_plan_step (FConsOK.fcons rfl fok_plan_items (FConsOK.nil))) LF_plan_Next LsF_plan_Next (B := BF_plan_Next) (BodiesOK.nil) Tryz.func14 rfl fun x y hf h => (frun_plan_Next x).trans (eq_plan_Next x y hf h)
noncomputable def LF_record_Of : List (Nat × LD) := []
noncomputable def LsF_record_Of : List (Nat × List (Nat × LD)) := []
noncomputable def BF_record_Of : Bodies := []
theorem frun_record_Of (x : denL [(.st .tree), (.st .batch)]) : frun [(14, c_plan_Next), (15, c_slices_Clone)] [14, 15] LF_record_Of LsF_record_Of BF_record_Of Tryz.f6 [(.st .tree), (.st .batch)] [(.st .record), .i] x = g_record_Of x := by kernel_rfl
theorem fok_record_Of : FConOK Tryz.prog 6 c_record_Of := fcon_ok (FConsOK.fcons rfl fok_plan_Next (FConsOK.fcons rfl fok_slices_Clone (FConsOK.nil))) LF_record_Of LsF_record_Of (B := BF_record_Of) (BodiesOK.nil) Tryz.func6 rfl fun x y hf h => (frun_record_Of x).trans (eq_record_Of x y hf h)
noncomputable def LF_record_Read : List (Nat × LD) := [(6, ⟨⟨[(2, .ptr 0 []), (4, .ptr 2 []), (5, .ptr 3 []), (6, .fn 22 [2, 3]), (7, .ptr 184 []), (18, .hole .i), (19, .hole .i)], [(1, (.st .breader), .hole (.st .breader)), (2, .bool, .ptr 1 []), (3, .bool, .hole .bool), (184, (.st .record), .agv  .record (.cons (.hole .i) (.cons (.hole .i) (.cons (.row .i) (.cons (.nils) (.nil))))))], []⟩, [(.exit 0, ⟨[(2, .ptr 0 []), (4, .ptr 2 []), (5, .ptr 3 []), (6, .fn 22 [2, 3]), (7, .ptr 184 [])], [(1, (.st .breader), .hole (.st .breader)), (2, .bool, .ptr 1 []), (3, .bool, .hole .bool), (184, (.st .record), .agv  .record (.cons (.hole .i) (.cons (.hole .i) (.cons (.row .i) (.cons (.nils) (.nil))))))], []⟩)], 124, [1000000, 1, 2, 3, 184]⟩), (10, ⟨⟨[(2, .ptr 0 []), (4, .ptr 2 []), (5, .ptr 3 []), (6, .fn 22 [2, 3]), (7, .ptr 184 []), (30, .hole .i), (31, .hole .i)], [(1, (.st .breader), .hole (.st .breader)), (2, .bool, .ptr 1 []), (3, .bool, .hole .bool), (184, (.st .record), .agv  .record (.cons (.hole .i) (.cons (.hole .i) (.cons (.slf 275) (.cons (.row (.st .seat)) (.nil))))))], []⟩, [(.exit 2, ⟨[(2, .ptr 0 []), (4, .ptr 2 []), (5, .ptr 3 []), (7, .ptr 184 [])], [(1, (.st .breader), .hole (.st .breader)), (2, .bool, .ptr 1 []), (3, .bool, .hole .bool), (184, (.st .record), .agv  .record (.cons (.hole .i) (.cons (.hole .i) (.cons (.slf 275) (.cons (.row (.st .seat)) (.nil))))))], []⟩)], 214, [1000000, 1, 2, 3, 184]⟩)]
noncomputable def LsF_record_Read : List (Nat × List (Nat × LD)) := [(22, [(1000000, ⟨⟨[(0, .hole .i), (1, .ptr 2 []), (2, .ptr 3 [])], [(1, (.st .breader), .hole (.st .breader)), (2, .bool, .ptr 1 []), (3, .bool, .hole .bool)], []⟩, [(.ret, ⟨[(4, .hole .i)], [(1, (.st .breader), .hole (.st .breader)), (2, .bool, .ptr 1 []), (3, .bool, .hole .bool)], []⟩)], 90, [1000000, 1, 2, 3]⟩)]), (23, [(1000000, ⟨⟨[(0, .ptr 1 []), (1, .hole .i)], [(1, (.st .breader), .hole (.st .breader))], []⟩, [(.ret, ⟨[(4, .hole (.int .u64)), (5, .hole .i)], [(1, (.st .breader), .hole (.st .breader))], []⟩)], 60, [1000000, 1]⟩), (5, ⟨⟨[(0, .ptr 1 []), (6, .hole (.int .u64)), (7, .hole .i)], [(1, (.st .breader), .hole (.st .breader))], []⟩, [(.exit 0, ⟨[(6, .hole (.int .u64))], [(1, (.st .breader), .hole (.st .breader))], []⟩)], 30, [1000000, 1]⟩)])]
noncomputable def BF_record_Read : Bodies := [bodyLine 21 Tryz.f21, bodyLine 22 Tryz.f22, bodyLine 23 Tryz.f23, bodyLine 33 Tryz.f33, bodyLine 32 Tryz.f32, bodyLine 24 Tryz.f24]
theorem frun_record_Read (x : denL [.str]) : frun [(16, c_record_right)] [] LF_record_Read LsF_record_Read BF_record_Read Tryz.f9 [.str] [(.st .record), .i] x = g_record_Read x := by kernel_rfl
theorem fok_record_Read : FConOK Tryz.prog 9 c_record_Read := fcon_ok (FConsOK.cons rfl ok_record_right (FConsOK.nil)) LF_record_Read LsF_record_Read (B := BF_record_Read) (BodiesOK.cons Tryz.func21 rfl (BodiesOK.cons Tryz.func22 rfl (BodiesOK.cons Tryz.func23 rfl (BodiesOK.cons Tryz.func33 rfl (BodiesOK.cons Tryz.func32 rfl (BodiesOK.cons Tryz.func24 rfl (BodiesOK.nil))))))) Tryz.func9 rfl fun x y hf h => (frun_record_Read x).trans (eq_record_Read x y hf h)
end Go.Proofs.YtmjobjaajnjgjaaGreatDoor
end

section
namespace Go.Proofs.YtmjobjaajnjgjaaGreatDoor
open Go Go.Co Go.Co.N Go.Proofs
noncomputable def L_law13_RecordMemory : List (Nat × LD) := [(17, ⟨⟨[(7, .ptr 10 []), (8, .ptr 11 []), (10, .ptr 14 []), (12, .ptr 17 []), (15, .ptr 20 []), (16, .hole .i), (17, .ptr 23 []), (129, .hole .i), (130, .hole .i)], [(10, (.st .batch), .agv  .batch (.cons (.ssl 5) (.cons (.ssl 9) (.nil))))], [(5, .unit, .i)]⟩, [(.exit 0, ⟨[(8, .ptr 11 []), (10, .ptr 14 []), (12, .ptr 17 []), (15, .ptr 20 []), (16, .hole .i), (17, .ptr 23 [])], [(10, (.st .batch), .agv  .batch (.cons (.ssl 5) (.cons (.ssl 9) (.nil))))], [(5, .unit, .i)]⟩)], 30, [1000000, 10, 5]⟩), (22, ⟨⟨[(8, .ptr 11 []), (10, .ptr 14 []), (12, .ptr 17 []), (15, .ptr 20 []), (16, .hole .i), (17, .ptr 23 []), (140, .hole .i), (141, .hole .i)], [(14, (.st .record), .agv  .record (.cons (.hole .i) (.cons (.hole .i) (.cons (.slf 12) (.cons (.slf 13) (.nil))))))], [(12, .unit, .i)]⟩, [(.exit 2, ⟨[(8, .ptr 11 []), (10, .ptr 14 []), (12, .ptr 17 []), (15, .ptr 20 []), (16, .hole .i), (17, .ptr 23 [])], [(14, (.st .record), .agv  .record (.cons (.hole .i) (.cons (.hole .i) (.cons (.slf 12) (.cons (.slf 13) (.nil))))))], [(12, .unit, .i)]⟩)], 30, [1000000, 14, 12]⟩), (27, ⟨⟨[(8, .ptr 11 []), (10, .ptr 14 []), (12, .ptr 17 []), (15, .ptr 20 []), (16, .hole .i), (17, .ptr 23 []), (151, .hole .i), (152, .hole .i)], [(14, (.st .record), .agv  .record (.cons (.hole .i) (.cons (.hole .i) (.cons (.slf 12) (.cons (.slf 13) (.nil))))))], [(13, .unit, (.st .seat))]⟩, [(.exit 4, ⟨[(8, .ptr 11 []), (10, .ptr 14 []), (12, .ptr 17 []), (15, .ptr 20 []), (16, .hole .i), (17, .ptr 23 [])], [(14, (.st .record), .agv  .record (.cons (.hole .i) (.cons (.hole .i) (.cons (.slf 12) (.cons (.slf 13) (.nil))))))], [(13, .unit, (.st .seat))]⟩)], 30, [1000000, 14, 13]⟩), (32, ⟨⟨[(8, .ptr 11 []), (10, .ptr 14 []), (12, .ptr 17 []), (15, .ptr 20 []), (16, .hole .i), (17, .ptr 23 []), (163, .hole .i), (164, .hole .i)], [(20, (.st .record), .agv  .record (.cons (.hole .i) (.cons (.hole .i) (.cons (.slf 18) (.cons (.slf 19) (.nil))))))], [(18, .unit, .i)]⟩, [(.exit 6, ⟨[(8, .ptr 11 []), (10, .ptr 14 []), (12, .ptr 17 []), (15, .ptr 20 []), (16, .hole .i), (17, .ptr 23 [])], [(20, (.st .record), .agv  .record (.cons (.hole .i) (.cons (.hole .i) (.cons (.slf 18) (.cons (.slf 19) (.nil))))))], [(18, .unit, .i)]⟩)], 30, [1000000, 20, 18]⟩), (37, ⟨⟨[(8, .ptr 11 []), (10, .ptr 14 []), (12, .ptr 17 []), (15, .ptr 20 []), (16, .hole .i), (17, .ptr 23 []), (174, .hole .i), (175, .hole .i)], [(20, (.st .record), .agv  .record (.cons (.hole .i) (.cons (.hole .i) (.cons (.slf 18) (.cons (.slf 19) (.nil))))))], [(19, .unit, (.st .seat))]⟩, [(.exit 8, ⟨[(8, .ptr 11 []), (10, .ptr 14 []), (12, .ptr 17 []), (15, .ptr 20 []), (16, .hole .i), (17, .ptr 23 [])], [(20, (.st .record), .agv  .record (.cons (.hole .i) (.cons (.hole .i) (.cons (.slf 18) (.cons (.slf 19) (.nil))))))], [(19, .unit, (.st .seat))]⟩)], 30, [1000000, 20, 19]⟩)]
noncomputable def Ls_law13_RecordMemory : List (Nat × List (Nat × LD)) := []
noncomputable def B_law13_RecordMemory : Bodies := []
theorem run_law13_RecordMemory (x : denL [(.st .tree), (.st .batch)]) : runF [(4, c_law13_lives), (5, c_ref13_Of), (6, c_record_Of), (7, c_ref08_Same), (8, c_record_Write), (9, c_record_Read), (10, c_ref13_Same), (11, c_ref09_Same)] [6, 9] L_law13_RecordMemory Ls_law13_RecordMemory B_law13_RecordMemory Tryz.f3 [(.st .tree), (.st .batch)] [.bool] x = g_law13_RecordMemory x := by kernel_rfl
theorem ok_law13_RecordMemory : ConOK Tryz.prog 3 c_law13_RecordMemory := con_okF (FConsOK.cons rfl ok_law13_lives (FConsOK.cons rfl ok_ref13_Of (FConsOK.fcons rfl fok_record_Of (FConsOK.cons rfl ok_ref08_Same (FConsOK.cons rfl ok_record_Write (FConsOK.fcons rfl fok_record_Read (FConsOK.cons rfl ok_ref13_Same (FConsOK.cons rfl ok_ref09_Same (FConsOK.nil))))))))) L_law13_RecordMemory Ls_law13_RecordMemory (B := B_law13_RecordMemory) (BodiesOK.nil) Tryz.func3 rfl fun x y hf h => (run_law13_RecordMemory x).trans (eq_law13_RecordMemory x y hf h)
end Go.Proofs.YtmjobjaajnjgjaaGreatDoor
end

section
namespace Go.Co.N
open Go Go.Co

theorem fr_batch {b : Batch} (h : Fr (.st .batch) b) : List.length b.Leaves * 8 ≤ 140737488351232 ∧ List.length b.Joins * 8 ≤ 140737488351232 := by
  have h := Fr.st.1 h
  obtain ⟨h1, h2⟩ := Fr.prod.1 h
  obtain ⟨h2, _⟩ := Fr.prod.1 h2
  exact ⟨Fr.list.1 h1, Fr.list.1 h2⟩
end Go.Co.N
end

section
namespace Go.Co.N
open Go Go.Co

theorem fr_law13_RecordMemory (x : denL [.st .tree, .st .batch]) (h : FrL [.st .tree, .st .batch] x) : c_law13_RecordMemory.fn x = some (true, ()) := by
  obtain ⟨t, b, _⟩ := x
  obtain ⟨h1, h2⟩ := fr_batch (b := b) h.2.1
  show guardK (decide (List.length b.Leaves * 8 ≤ 140737488351232) && decide (List.length b.Joins * 8 ≤ 140737488351232)) (some (true, ())) = _
  rw [decide_eq_true h1, decide_eq_true h2]; rfl
end Go.Co.N
end
