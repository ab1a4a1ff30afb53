/-
  The n least free slots: the program's function that ranges over an iterator of its own.
  The program computes so: printed by a program of my own (wip/tool).
  The program computes so: printed by a program of my own (wip/tool).
  history.Born: what it computes.
  The program computes so: printed by a program of my own (wip/tool).
  No conditions. Own text, for the claims about coterie.
-/
import Derived.RangeFuncKeeps
import Derived.RangeFuncLeaves
import Derived.RangeFuncBox
import Derived.RangeFuncCalls
import Derived.Shelf.Abstract
import Derived.WalkKit
import Derived.OwnWalkIn
import Derived.TacticsInMore
import Derived.LoopNIn
import Derived.LoopIn
import Derived.Maps.AppendAt
import Derived.RegionIn
import Derived.Shelf.RegionOpen
import Derived.Test.YtghlolinkmlkeaaDoorPartE

section
namespace Go.Proofs.YtghlolinkmlkeaaDoor
open Go Go.Co Go.Co.N Go.Proofs Go.RowKit Go.Shelf
attribute [local go_sem] Oper.semAt_some

theorem low_walk {x : Nat} (h0 : 0 < x) (h1 : x < 18446744073709551616) : 0 ≤ IntKind.u64.wrap (Go.bits BinOp.and IntKind.u64 (x : Int) (IntKind.u64.wrap (-(x : Int))) * 285870213051353865) / 288230376151711744 ∧
    IntKind.u64.wrap (Go.bits BinOp.and IntKind.u64 (x : Int) (IntKind.u64.wrap (-(x : Int))) * 285870213051353865) / 288230376151711744 < 64 ∧
    tab64[(IntKind.u64.wrap (Go.bits BinOp.and IntKind.u64 (x : Int) (IntKind.u64.wrap (-(x : Int))) * 285870213051353865) / 288230376151711744).toNat]? = some (tzN x) := by
  have e1 : IntKind.u64.wrap (-(x : Int)) = ((18446744073709551616 - x : Nat) : Int) := by
    show (-(x : Int)) % 18446744073709551616 = _
    omega
  have e2 : Go.bits BinOp.and IntKind.u64 (x : Int) ((18446744073709551616 - x : Nat) : Int) = ((x &&& (18446744073709551616 - x) : Nat) : Int) := bw_and64 _ _ h1 (by omega)
  have e3 : IntKind.u64.wrap (((x &&& (18446744073709551616 - x) : Nat) : Int) * 285870213051353865) = (((x &&& (18446744073709551616 - x)) * 285870213051353865 % 18446744073709551616 : Nat) : Int) := by
    show (((x &&& (18446744073709551616 - x) : Nat) : Int) * 285870213051353865) % 18446744073709551616 = _
    omega
  have hlt : (x &&& (18446744073709551616 - x)) * 285870213051353865 % 18446744073709551616 < 18446744073709551616 := Nat.mod_lt _ (by omega)
  rw [e1, e2, e3]
  refine ⟨by omega, by omega, ?_⟩
  have := tab_low h0 (show x < 2 ^ 64 by omega)
  rw [show (((((x &&& (18446744073709551616 - x)) * 285870213051353865 % 18446744073709551616 : Nat) : Int)) / 288230376151711744).toNat = (x &&& (18446744073709551616 - x)) * 285870213051353865 % 18446744073709551616 / 288230376151711744 by omega]
  exact this
theorem glob_name : ∃ gl, Tryd.prog.globals[0]? = some gl ∧ gl.name = "math/bits.deBruijn64tab" := by
  have h : (Tryd.prog.globals[0]?.map (·.name)) = some "math/bits.deBruijn64tab" := by kernel_rfl
  cases hg : Tryd.prog.globals[0]? with
  | none => rw [hg] at h; cases h
  | some gl => rw [hg] at h; exact ⟨gl, rfl, Option.some.inj h⟩
theorem wrap_tz {x : Nat} (h0 : 0 < x) (h1 : x < 18446744073709551616) : wrap64 (tzN x : Int) = (tzN x : Int) := by
  have := (bitsL_cons h0 (show x < 2 ^ 64 by omega)).1
  exact Go.IntWalk.wrap64_in _ (by omega)
set_option maxHeartbeats 1000000 in
theorem tz_in (F : Fence) (n : Nat) (hF : F.fn 103) (hro : F.round = none) (x : Nat) (h0 : 0 < x) (h1 : x < 18446744073709551616) (w : World) (hg : GOK Tryd.prog w) :
    CallsIn F n Tryd.prog 103 #[.int .u64 (x : Int)] w fun e w' => e = .returned (.int .i64 (tzN x : Int)) ∧ w' = w := by
  obtain ⟨b1, b2, b3⟩ := low_walk h0 h1
  obtain ⟨gl, g1, g2⟩ := glob_name
  have hc := hg 0 gl g1 g2 _ _ b3
  have hx : ¬ (x : Int) = 0 := by omega
  have hx2 : ((x : Int) == 0) = false := by simpa using hx
  refine callsIn_of_wp Tryd.func103 rfl hF ?_ hro
  simp only [Tryd.ntmps103, List.size_toArray, List.length_cons, List.length_nil, Nat.reduceAdd, Nat.reduceSub, Array.replicate_succ, Array.replicate_zero, List.push_toArray, List.append_toArray, List.nil_append, List.cons_append]
  gi_wp2
  rw [wrap_tz h0 h1]
  go_ret
  exact ⟨rfl, rfl⟩

/-! ### The iterator -/
/-- What a box holds of a word. -/
def boxW (W : World) (B : Nat) : Nat := match W.cell? ⟨B, 0, none⟩ with | some (.int _ x) => x.toNat | _ => 0
theorem boxW_eq {W : World} {B x : Nat} {t : TypeId} (h : Boxed W B t (.int .u64 (x : Int))) : boxW W B = x := by
  unfold boxW; rw [h.cell]; simp
theorem pred_walk {x : Nat} (h0 : 0 < x) (h1 : x < 18446744073709551616) : Go.bits BinOp.and IntKind.u64 (x : Int) ((x : Int) - 1) = ((x &&& (x - 1) : Nat) : Int) := by
  have e1 : (x : Int) - 1 = ((x - 1 : Nat) : Int) := by omega
  rw [e1]
  exact bw_and64 _ _ h1 (by omega)
set_option maxRecDepth 100000 in
set_option maxHeartbeats 2000000 in
theorem each1_in (F : Fence) (n : Nat) (h103 : F.fn 102) (h104 : F.fn 103) (hro : F.round = none) (hn : 1 ≤ n) (l Be : Nat) (x0 : Nat) (hx0 : x0 < 18446744073709551616) (J Jx : List Nat → World → Prop)
    (hJ : ∀ pre A x v, J pre A → Boxed A Be 85 x → J pre (A.setCell ⟨Be, 0, none⟩ v)) (hJg : ∀ pre A, J pre A → GOK Tryd.prog A)
    (hY : ∀ (pre : List Nat) (x : Nat) W, J pre W → pre ++ [x] <+: bitsL x0 → YieldAt F (n - 1) Tryd.prog l #[.int .i64 (x : Int)] W fun e W' =>
      (e = .returned (.bool true) ∧ J (pre ++ [x]) W' ∧ W'.heap[Be]? = W.heap[Be]?) ∨ (e = .returned (.bool false) ∧ Jx (pre ++ [x]) W'))
    (W : World) (hBe : Boxed W Be 85 (.int .u64 (x0 : Int))) (h0 : J [] W) :
    CallsIn F n Tryd.prog 102 #[.func (.yield l) #[] #[], .pointer (some ⟨Be, 0, none⟩)] W fun e W' => (∃ v, e = .returned v) ∧ (J (bitsL x0) W' ∨ (∃ pre, pre <+: bitsL x0 ∧ Jx pre W')) := by
  refine callsIn_of_wp Tryd.func102 rfl h103 ?_ hro
  simp only [Tryd.ntmps102, List.size_toArray, List.length_cons, List.length_nil, Nat.reduceAdd, Nat.reduceSub, Array.replicate_succ, Array.replicate_zero, List.push_toArray, List.append_toArray, List.nil_append, List.cons_append]
  gi_wp2
  gi_loopw [] (fun wr => ∃ (pre : List Nat) (rem : Nat), bitsL x0 = pre ++ bitsL rem ∧ rem < 18446744073709551616 ∧ Boxed wr Be 85 (.int .u64 (rem : Int)) ∧ J pre wr)
    (fun wr => boxW wr Be)
  case atStart => exact ⟨[], x0, rfl, hx0, hBe, h0⟩
  case round =>
    obtain ⟨pre, rem, hx, hlt, hb, hJs⟩ := hrel
    have hc := hb.cell
    by_cases hz : rem = 0
    · subst hz
      have hz0 : (((0 : Nat) : Int) == 0) = true := rfl
      gi_wp2
      go_end0
      rw [bitsL_zero, List.append_nil] at hx
      exact ⟨⟨_, rfl⟩, .inl (by rw [hx]; exact hJs)⟩
    · have hz0 : (((rem : Nat) : Int) == 0) = false := by simpa using hz
      obtain ⟨k1, k2, k3⟩ := bitsL_cons (show 0 < rem by omega) (show rem < 2 ^ 64 by omega)
      have hpre : pre ++ [tzN rem] <+: bitsL x0 := ⟨bitsL (rem &&& (rem - 1)), by rw [hx, k2]; simp⟩
      obtain ⟨fn, tmps, assign, body, hy, hR⟩ := hY pre (tzN rem) wr hJs hpre
      gi_wp2_with (gi_at_call 103; refine (tz_in F (n - 1) h104 hro rem (by omega) hlt wr (hJg _ _ hJs)).mono ?_; rintro e w' ⟨rfl, rfl⟩)
      refine hR.mono ?_
      rintro e W3 (⟨rfl, hJ3, hk3⟩ | ⟨rfl, hJx3⟩)
      · have hb3 : Boxed W3 Be 85 (.int .u64 (rem : Int)) := hk3.trans hb
        have hc3 := hb3.cell
        have hf3 := hb3.frozen
        gi_wp2
        rw [pred_walk (by omega) hlt]
        go_roundw
        case rel => exact ⟨pre ++ [tzN rem], rem &&& (rem - 1), by rw [hx, k2]; simp, by omega, hb3.set _, hJ _ _ _ _ hJ3 hb3⟩
        case measure => rw [boxW_eq (hb3.set _), boxW_eq hb]; exact k3
      · gi_wp2
        refine bodyPost_ret (results_none rfl _ _ _) rfl ?_
        exact ⟨⟨_, rfl⟩, .inr ⟨pre ++ [tzN rem], hpre, hJx3⟩⟩
set_option maxHeartbeats 1000000 in
theorem each_in (F : Fence) (n : Nat) (hF : F.fn 96) (hro : F.round = none) (x : Int) (w : World) :
    CallsIn F n Tryd.prog 96 #[.int .u64 x] w fun e w' => e = .returned (.func (.func 102) #[] #[.pointer (some ⟨w.heap.size, 0, none⟩)]) ∧ w' = w.alloc (.cells #[.int .u64 x] 85) := by
  refine callsIn_of_wp Tryd.func96 rfl hF ?_ hro
  simp only [Tryd.ntmps96, List.size_toArray, List.length_cons, List.length_nil, Nat.reduceAdd, Nat.reduceSub, Array.replicate_succ, Array.replicate_zero, List.push_toArray, List.append_toArray, List.nil_append, List.cons_append]
  gi_wp2
  go_ret
  exact ⟨rfl, rfl⟩

/-! ### The least free slots -/
theorem count_calls (h : ConOK Tryd.prog 70 c_seats_Count) (s : Nat) (hs : s < 18446744073709551616) (w : World) (hg : GOK Tryd.prog w) :
    CallsIn Fence.wide 9 Tryd.prog 70 #[.int .u64 (s : Int)] w fun e w' => e = .returned (.int .i64 (cntW (s : Int))) ∧ Blw w.heap.size w w' := by
  refine callsIn_wide.2 (Calls.mono (h.run w (fun _ => False) ((s : Int), ()) [.int .u64 (s : Int)] _ hg (fun _ h => h.elim) ⟨⟨_, rfl, Rd.int.2 ⟨rfl, ?_⟩⟩, trivial⟩ rfl) ?_)
  · rw [inKind_iff]; show 0 ≤ (s : Int) ∧ (s : Int) ≤ 18446744073709551615; omega
  · rintro e w' ⟨z, rfl, hb, cs, hz, hr⟩
    have hr := (Rd.int.1 hr).1
    subst hr
    exact ⟨by rw [hz]; rfl, hb⟩
theorem bit_calls (h : ConOK Tryd.prog 97 c_seats_bit) (i : Nat) (hi : i < 64) (w : World) (hg : GOK Tryd.prog w) :
    CallsIn Fence.wide 7 Tryd.prog 97 #[.int .i64 (i : Int)] w fun e w' => e = .returned (.int .u64 ((2 ^ i : Nat) : Int)) ∧ Blw w.heap.size w w' := by
  refine callsIn_wide.2 (Calls.mono (h.run w (fun _ => False) ((i : Int), ()) [.int .i64 (i : Int)] _ hg (fun _ h => h.elim) ⟨⟨_, rfl, Rd.int.2 ⟨rfl, ?_⟩⟩, trivial⟩ rfl) ?_)
  · rw [inKind_iff]; show -9223372036854775808 ≤ (i : Int) ∧ (i : Int) ≤ 9223372036854775807; omega
  · rintro e w' ⟨z, rfl, hb, cs, hz, hr⟩
    have hr := (Rd.int.1 hr).1
    subst hr
    refine ⟨?_, hb⟩
    rw [hz]
    show Ending.returned (Value.int IntKind.u64 (bitOf (i : Int))) = _
    unfold bitOf
    rw [if_pos ⟨by omega, by omega⟩, Int.toNat_natCast]
/-- An answer of three. -/
def takeRes (W : World) (base : Nat) (z : Value) (l : List Nat) (s : Nat) : Prop := ∃ v, z = .tuple #[v, .int .u64 (s : Int), .int .i64 0] ∧ W.ownsRow base 3 1 v l.length (l.map fun (i : Nat) => Value.int .i64 (i : Int))
theorem region_key {F : Fence} {n : Nat} {P : Program} {c : Code} {K : Act → World → Prop} {X : Exit → Act → World → Prop} {a : Act} {w : World} (a' : Act) (Inv : World → Prop) (h1 : ∀ w', Inv w' → K a' w')
    (h2 : c.wpIn F n P (Exit.then (fun a w => a = a' ∧ Inv w) (fun _ _ _ => False)) a w) : c.wpIn F n P (Exit.then K X) a w :=
  Go.wpIn_mono h2 fun e a w h => by
    cases e with
    | normal => obtain ⟨rfl, h⟩ := h; exact h1 w h
    | _ => exact h.elim
theorem region_calm {F : Fence} {n : Nat} {P : Program} {c : Code} {K : Act → World → Prop} {X : Exit → Act → World → Prop} {a : Act} {w : World} (h : c.wpIn F n P (Exit.then K (fun _ _ _ => False)) a w) : c.wpIn F n P (Exit.then K X) a w :=
  Go.wpIn_mono h fun e a w h => by cases e <;> first | exact h | exact h.elim
theorem res75 (tmps : Array Value) (w : World) : (results Tryd.f75 tmps).run Tryd.prog w = .ok (.tuple #[tmps.getD 4 undef, tmps.getD 5 undef, tmps.getD 6 undef]) w := by
  simp [results, Tryd.f75, go_sem]
theorem compl_bits {s : Nat} (hs : s < 18446744073709551616) : Go.bits BinOp.xor IntKind.u64 IntKind.u64.max (s : Int) = ((18446744073709551615 - s : Nat) : Int) := by
  have hx : bw .xor .u64 ((18446744073709551615 : Nat) : Int) (s : Int) = ((18446744073709551615 ^^^ s : Nat) : Int) :=
    bwN (op := .xor) (f := fun a b => a ^^^ b) (fun a b ha hb => Nat.xor_lt_two_pow (n := 64) ha hb) (fun a b ha hb => by
      show (BitVec.ofNat 64 a ^^^ BitVec.ofNat 64 b).toNat = _
      simp [BitVec.toNat_xor, Nat.mod_eq_of_lt ha, Nat.mod_eq_of_lt hb]) _ _ (by omega) hs
  refine hx.trans ?_
  congr 1
  apply Nat.eq_of_testBit_eq
  intro i
  have h1 := Nat.testBit_two_pow_sub_one 64 i
  have h2 := Nat.testBit_two_pow_sub_succ (n := 64) (x := s) (by omega) i
  rw [Nat.testBit_xor, show (18446744073709551615 : Nat) = 2 ^ 64 - 1 from rfl, h1, show (2 : Nat) ^ 64 - 1 - s = 2 ^ 64 - (s + 1) by omega, h2]
  by_cases hi : i < 64
  · simp [hi]
  · have : s.testBit i = false := Nat.testBit_lt_two_pow (Nat.lt_of_lt_of_le (show s < 2 ^ 64 by omega) (Nat.pow_le_pow_right (by omega) (by omega)))
    simp [hi, this]
theorem bitI_nat (s i : Nat) : bitI (s : Int) i = s.testBit i := by
  unfold bitI
  rw [Nat.testBit_eq_decide_div_mod_eq]
  congr 1
  rw [show ((s : Int) / 2 ^ i) = ((s / 2 ^ i : Nat) : Int) by simp]
  simp only [eq_iff_iff]; omega
theorem bitsL_compl {s : Nat} (hs : s < 18446744073709551616) : bitsL (18446744073709551615 - s) = freeL (s : Int) := by
  unfold bitsL freeL
  refine List.filter_congr fun i hi => ?_
  have hi : i < 64 := by simpa using hi
  have h2 := Nat.testBit_two_pow_sub_succ (n := 64) (x := s) (by omega) i
  rw [show (18446744073709551615 : Nat) - s = 2 ^ 64 - (s + 1) by omega, h2, bitI_nat]
  simp [hi]
theorem freeL_len (s : Nat) : (freeL (s : Int)).length = 64 - cntW (s : Int) := by
  unfold freeL cntW
  rw [filter_cnt, filter_cnt]
  have := cntP_not (bitI (s : Int)) 64
  omega
theorem orL_snoc (s : Nat) (l : List Nat) (i : Nat) : orL s (l ++ [i]) = orL s l ||| 2 ^ i := by simp [orL]
theorem orL_lt {s : Nat} (hs : s < 18446744073709551616) : ∀ l : List Nat, (∀ i ∈ l, i < 64) → orL s l < 18446744073709551616 := by
  intro l
  induction l generalizing s with
  | nil => intro _; exact hs
  | cons i l ih =>
    intro h
    refine ih ?_ fun j hj => h j (List.mem_cons_of_mem _ hj)
    have h2 : (2 : Nat) ^ i < 2 ^ 64 := Nat.pow_lt_pow_right (by omega) (h i (List.mem_cons_self ..))
    exact Nat.or_lt_two_pow (n := 64) hs h2
theorem or_walk {a b : Nat} (ha : a < 18446744073709551616) (hb : b < 18446744073709551616) : Go.bits BinOp.or IntKind.u64 (a : Int) (b : Int) = ((a ||| b : Nat) : Int) := bw_or64 _ _ ha hb
theorem bitsL_lt {x i : Nat} (h : i ∈ bitsL x) : i < 64 := by
  unfold bitsL at h
  simp only [List.mem_filter, List.mem_range] at h
  exact h.1
/-- What the loop keeps. -/
def takeI (w : World) (s : Nat) (n : Int) (N0 Bo : Nat) (pre : List Nat) (W : World) : Prop :=
  Blw w.heap.size w W ∧ N0 ≤ W.heap.size ∧ Boxed W w.heap.size 85 (.int .u64 (orL s pre : Int)) ∧ Boxed W (w.heap.size + 1) 3 (.int .i64 n) ∧ pre.length ≤ n.toNat ∧ ∃ v, Boxed W Bo 50 v ∧ W.ownsRow N0 3 1 v pre.length (pre.map fun (i : Nat) => Value.int .i64 (i : Int))
theorem Boxed.putObj {A : World} {B : Nat} {t : TypeId} {v : Value} (h : Boxed A B t v) {l : Nat} {o o' : Obj} (hl : A.heap[l]? = some o) (ho : o.isCells = false) : Boxed (A.putObj l o') B t v := by
  have hne : B ≠ l := fun e => by
    rw [e] at h
    rw [show A.heap[l]? = _ from h] at hl
    cases hl; cases ho
  exact (World.putObj_heap_other hne).trans h
theorem ownsRow_base {W : World} {b b' : Nat} {e : TypeId} {size : Nat} {v : Value} {k : Nat} {xs : List Value} (h : W.ownsRow b e size v k xs) (hb : b' ≤ b) : W.ownsRow b' e size v k xs := by
  refine ⟨h.1, ?_⟩
  rcases h.2 with h | ⟨g, cap, cur, h1, h2, h3⟩
  · exact .inl h
  · exact .inr ⟨g, cap, cur, h1, by omega, h3⟩
theorem ownsRow_form {W : World} {b : Nat} {e : TypeId} {size : Nat} {v : Value} {k : Nat} {xs : List Value} (h : W.ownsRow b e size v k xs) : ∃ ad cap, v = .slice ad k cap := by
  rcases h.2 with ⟨rfl, rfl⟩ | ⟨g, cap, cur, rfl, _⟩
  · exact ⟨_, _, rfl⟩
  · exact ⟨_, _, rfl⟩
theorem keeps_blw {A B : World} (h : Blw A.heap.size A B) : KeepsOthers A B := ⟨h.size, fun j _ ho _ => (h.block j (Array.getElem?_eq_some_iff.1 ho).1).trans ho⟩
theorem takeI_cl (w : World) (s : Nat) (n : Int) (N0 Bo n0 : Nat) (hn : w.heap.size ≤ n0) : Cl n0 (takeI w s n N0 Bo) := by
  constructor
  · rintro pre A o ho ⟨h1, h2, h3, h4, h5, v, h6, h7⟩
    refine ⟨(.of (h1.toBelow.alloc h1.size o)), by simp; omega, h3.alloc _, h4.alloc _, h5, v, h6.alloc _, h7.alloc _⟩
  · rintro pre A l o o' hl ⟨h1, h2, h3, h4, h5, v, h6, h7⟩ hlo ho ho'
    refine ⟨(.of (⟨h1.os, h1.tape, h1.output, Nat.le_trans h1.size (grownBy_putObj' A l o').size, fun k hk => (World.putObj_heap_other (by omega)).trans (h1.block k hk)⟩)), Nat.le_trans h2 (grownBy_putObj' A l o').size, Boxed.putObj h3 hlo ho, Boxed.putObj h4 hlo ho, h5, v, Boxed.putObj h6 hlo ho, ownsRow_putObj h7 _ hlo ho⟩
set_option maxRecDepth 100000 in
set_option maxHeartbeats 4000000 in
theorem take_in (hcn : ConOK Tryd.prog 70 c_seats_Count) (hbt : ConOK Tryd.prog 97 c_seats_bit) (s : Nat) (hs : s < 18446744073709551616) (n : Int) (hn : -9223372036854775808 ≤ n ∧ n ≤ 9223372036854775807) (w : World) (hg : GOK Tryd.prog w) :
    CallsIn Fence.wide 10 Tryd.prog 75 #[.int .u64 (s : Int), .int .i64 n] w fun e W' => ∃ z, e = .returned z ∧ Blw w.heap.size w W' ∧
      (n < 0 → z = .tuple #[.slice none 0 0, .int .u64 0, .int .i64 1]) ∧ (0 ≤ n → 64 - cntW (s : Int) < n → z = .tuple #[.slice none 0 0, .int .u64 0, .int .i64 18]) ∧
      (0 ≤ n → n ≤ 64 - cntW (s : Int) → takeRes W' w.heap.size z ((freeL (s : Int)).take n.toNat) (orL s ((freeL (s : Int)).take n.toNat))) := by
  refine callsIn_of_wp_marks Tryd.func75 rfl trivial ?_ rfl
  simp only [Tryd.ntmps75, List.size_toArray, List.length_cons, List.length_nil, Nat.reduceAdd, Nat.reduceSub, Array.replicate_succ, Array.replicate_zero, List.push_toArray, List.append_toArray, List.nil_append, List.cons_append]
  have hmx : Tryd.prog.follows .mixedOrders = true := by kernel_rfl
  gi_wp2
  · exact ⟨_, res75 _ _, _, rfl, (.of (((Below.refl _ w).alloc (Nat.le_refl _) _).alloc (by simp) _)), fun _ => rfl, fun h => absurd h (by omega), fun h => absurd h (by omega)⟩
  · have bS : Boxed ((w.alloc (.cells #[.int .u64 (s : Int)] 85)).alloc (.cells #[.int .i64 n] 3)) w.heap.size 85 (.int .u64 (s : Int)) := (Boxed.new w 85 _).alloc _
    have bN : Boxed ((w.alloc (.cells #[.int .u64 (s : Int)] 85)).alloc (.cells #[.int .i64 n] 3)) (w.heap.size + 1) 3 (.int .i64 n) := by
      have := Boxed.new (w.alloc (.cells #[.int .u64 (s : Int)] 85)) 3 (.int .i64 n)
      rwa [World.size_alloc] at this
    have b0 : Blw w.heap.size w ((w.alloc (.cells #[.int .u64 (s : Int)] 85)).alloc (.cells #[.int .i64 n] 3)) := (.of (((Below.refl _ w).alloc (Nat.le_refl _) _).alloc (by simp) _))
    generalize hW2 : (w.alloc (.cells #[.int .u64 (s : Int)] 85)).alloc (.cells #[.int .i64 n] 3) = W2 at *
    have hlt2 : w.heap.size + 2 ≤ W2.heap.size := by rw [← hW2]; simp
    have c1 := bS.cell
    have c2 := bN.cell
    have hg2 : GOK Tryd.prog W2 := hg.blw b0 (Nat.le_refl _)
    have hcw := cntW_le (s : Int)
    have hwr : IntKind.i64.wrap (64 - cntW (s : Int)) = 64 - cntW (s : Int) := i64_in _ (by omega)
    refine region_key { tmps := #[.int .u64 (s : Int), .int .i64 n, .pointer (some ⟨w.heap.size, 0, none⟩), .pointer (some ⟨w.heap.size + 1, 0, none⟩), .slice none 0 0, .int .u64 0, .int .i64 0, undef, undef, .bool (decide (n < 0)), .int .i64 n, .bool (decide (n < 0)), .bool (decide ((64 - cntW (s : Int)) < n)), .int .i64 n, .int .u64 (s : Int), .int .i64 (cntW (s : Int)), .int .i64 ((64 - cntW (s : Int))), .bool (decide ((64 - cntW (s : Int)) < n)), undef, undef, undef, undef, undef, undef, undef, undef, undef, undef, undef, undef, undef, undef, undef, undef, undef, undef], defers := [] }
      (fun w' => Blw w.heap.size w w' ∧ Boxed w' w.heap.size 85 (.int .u64 (s : Int)) ∧ Boxed w' (w.heap.size + 1) 3 (.int .i64 n)) ?_ ?_
    rotate_left
    · gi_region_with_o (refine ⟨trivial, ?_⟩; gi_at_call 70; refine (count_calls hcn s hs W2.drew hg2).mono ?_; rintro e w' ⟨rfl, hb⟩; have bS3 : Boxed w' w.heap.size 85 (.int .u64 (s : Int)) := (hb.block _ (show w.heap.size < W2.heap.size by omega)).trans bS; have bN3 : Boxed w' (w.heap.size + 1) 3 (.int .i64 n) := (hb.block _ (show w.heap.size + 1 < W2.heap.size by omega)).trans bN; have b3 : Blw w.heap.size w w' := (b0.trans (.of (Below.refl _ W2).drew)).trans (hb.mono (show w.heap.size ≤ W2.heap.size by omega)); have c3 := bS3.cell; have c4 := bN3.cell)
      all_goals exact ⟨rfl, b3, bS3, bN3⟩
    rintro w' ⟨b3, bS3, bN3⟩
    have c3 := bS3.cell
    have c4 := bN3.cell
    have bS4 := bS3.alloc (.cells #[.slice none 0 0] 50)
    have c5 := bS4.cell
    gi_wp2_with (refine ⟨trivial, ?_⟩; gi_at_call 96; refine (each_in Fence.wide 9 trivial rfl _ _).mono ?_; rintro e w2 ⟨rfl, rfl⟩)
    · exact ⟨_, res75 _ _, _, rfl, b3, fun h => absurd h (by omega), fun _ _ => rfl, fun _ h => absurd h (by omega)⟩
    · rw [compl_bits hs]
      have hle : w.heap.size + 2 ≤ w'.heap.size := by have := bN3.lt; omega
      have bS5 := bS4.alloc (.cells #[.int .u64 ((18446744073709551615 - s : Nat) : Int)] 85)
      have bN5 := (bN3.alloc (.cells #[.slice none 0 0] 50)).alloc (.cells #[.int .u64 ((18446744073709551615 - s : Nat) : Int)] 85)
      have bO5 := (Boxed.new w' 50 (.slice none 0 0)).alloc (.cells #[.int .u64 ((18446744073709551615 - s : Nat) : Int)] 85)
      have bE5 := Boxed.new (w'.alloc (.cells #[.slice none 0 0] 50)) 85 (.int .u64 ((18446744073709551615 - s : Nat) : Int))
      rw [World.size_alloc] at bE5
      have hB5 : Blw w.heap.size w ((w'.alloc (.cells #[.slice none 0 0] 50)).alloc (.cells #[.int .u64 ((18446744073709551615 - s : Nat) : Int)] 85)) := (.of ((b3.toBelow.alloc b3.size _).alloc (by simp; exact Nat.le_succ_of_le b3.size) _))
      have hsz : ((w'.alloc (.cells #[.slice none 0 0] 50)).alloc (.cells #[.int .u64 ((18446744073709551615 - s : Nat) : Int)] 85)).heap.size = w'.heap.size + 2 := by simp
      generalize (w'.alloc (.cells #[.slice none 0 0] 50)).alloc (.cells #[.int .u64 ((18446744073709551615 - s : Nat) : Int)] 85) = W0 at *
      obtain ⟨i0, hi, hz0, hz1, hz2⟩ := info_parts (show (Tryd.prog.info? 3).map (fun i => (i.zero, i.size, i.bytes)) = some (some (.int .i64 0), 1, 8) by kernel_rfl)
      refine rangeFunc_box (n := 10) rfl (by omega) (gf := 102) (lb := #[.pointer (some ⟨w'.heap.size + 1, 0, none⟩)]) rfl trivial (enters_of Tryd.func102 (by kernel_rfl) rfl) (encs := fun x : Nat => #[Value.int .i64 (x : Int)]) (Be := w'.heap.size + 1) (tB := 85) (xB := .int .u64 ((18446744073709551615 - s : Nat) : Int)) (G := GOK Tryd.prog) (xs := bitsL (18446744073709551615 - s)) (fun _ => rfl)
        (fun l J Jx W hJ hG hY hB h0 => each1_in Fence.wide 9 trivial trivial rfl (by omega) l (w'.heap.size + 1) _ (by omega) J Jx hJ hG hY W hB h0)
        bE5 (takeI w s n W0.heap.size w'.heap.size) (fun c pre W => c = .exit 1 ∧ ∃ (pre0 : List Nat) (x : Nat), pre = pre0 ++ [x] ∧ pre0.length = n.toNat ∧ takeI w s n W0.heap.size w'.heap.size pre0 W)
        (takeI_cl w s n _ _ _ (by omega)) (fun c => ⟨fun pre A o ho ⟨h1, pre0, x, h2, h3, h4⟩ => ⟨h1, pre0, x, h2, h3, (takeI_cl w s n _ _ W0.heap.size (by omega)).alloc _ _ _ ho h4⟩, fun pre A l o o' hl ⟨h1, pre0, x, h2, h3, h4⟩ hlo ho ho' => ⟨h1, pre0, x, h2, h3, (takeI_cl w s n _ _ W0.heap.size (by omega)).putObj _ _ _ _ _ hl h4 hlo ho ho'⟩⟩)
        ?set (fun pre A h => hg.blw h.1 (Nat.le_refl _)) ⟨hB5, Nat.le_refl _, bS5, bN5, by simp, _, bO5, World.ownsRow_nil _ _ _ _⟩
        (fun x => { tmps := #[.int .u64 (s : Int), .int .i64 n, .pointer (some ⟨w.heap.size, 0, none⟩), .pointer (some ⟨w.heap.size + 1, 0, none⟩), .slice none 0 0, .int .u64 0, .int .i64 0, .pointer (some ⟨w'.heap.size, 0, none⟩), .int .i64 (x : Int), .bool (decide (n < 0)), .int .i64 n, .bool (decide (n < 0)), .bool (decide ((64 - cntW (s : Int)) < n)), .int .i64 n, .int .u64 (s : Int), .int .i64 (cntW (s : Int)), .int .i64 (64 - cntW (s : Int)), .bool (decide ((64 - cntW (s : Int)) < n)), .int .u64 (s : Int), .int .u64 ((18446744073709551615 - s : Nat) : Int), .func (.func 102) #[] #[.pointer (some ⟨w'.heap.size + 1, 0, none⟩)], .int .i64 (x : Int), undef, undef, undef, undef, undef, undef, undef, undef, undef, undef, undef, undef, undef, undef], defers := [] })
        ?assign ?body ?done ?stop
      case set =>
        rintro pre A x v ⟨h1, h2, h3, h4, h5, v', h6, h7⟩ hb
        have oth : ∀ {B : Nat} {t : TypeId} {u : Value}, B ≠ w'.heap.size + 1 → Boxed A B t u → Boxed (A.setCell ⟨w'.heap.size + 1, 0, none⟩ v) B t u := fun hne h => (Below.heap_setCell _ _ _ _ hne).trans h
        refine ⟨(.of (h1.toBelow.setCell (p := ⟨w'.heap.size + 1, 0, none⟩) (show w.heap.size ≤ w'.heap.size + 1 by omega) _)), Nat.le_trans h2 (grownBy_setCell' A _ v).size, oth (by omega) h3, oth (by omega) h4, h5, v', oth (by omega) h6, h7.kept (grownBy_setCell' A _ v) ?_⟩
        rcases h7.2 with ⟨rfl, _⟩ | ⟨g, cap, cur, rfl, hbg, _⟩
        · exact .inl rfl
        · exact .inr (by simp [Value.ownBlock]; omega)
      case assign =>
        intro l x W K hK
        gi_wp2
        exact hK
      case body =>
        rintro l pre x W ⟨h1, h2, h3, h4, h5, v, h6, h7⟩ hpre
        have hx64 : x < 64 := bitsL_lt (hpre.subset (List.mem_append.2 (.inr (by simp))))
        have hp64 : ∀ i ∈ pre, i < 64 := fun i hi => bitsL_lt (hpre.subset (List.mem_append.2 (.inl hi)))
        have hol := orL_lt hs pre hp64
        have hxp : (2 : Nat) ^ x < 18446744073709551616 := Nat.pow_lt_pow_right (by omega) hx64
        have hplen : pre.length ≤ 64 := by
          have := hpre.length_le
          have h2 : (bitsL (18446744073709551615 - s)).length ≤ 64 := by unfold bitsL; have := List.length_filter_le (fun i => (18446744073709551615 - s).testBit i) (List.range 64); simpa using this
          simp at this; omega
        have hml : (65 : Nat) ≤ maxLen := by decide
        obtain ⟨ad, cap, rfl⟩ := ownsRow_form h7
        have k3 := h3.cell
        have k4 := h4.cell
        have k6 := h6.cell
        have k3f := h3.frozen
        have k6f := h6.frozen
        gi_wp2_with (gi_at_builtin; refine wpListIn_append_fz _ rfl _ _ 50 rfl W0.heap.size 3 i0 (.int .i64 0) 1 8 Tryd.underlying50 hi hz0 hz1 hz2 rfl (by decide) _ _ _ rfl (h7.alloc _) ⟨W.heap.size, 0, none⟩ 1 1 [.int .i64 (x : Int)] rfl rfl (cell_one_new _ _ _) (by simp [Value.oneCell']) (by omega) (by omega) (by omega) (by simp; omega) ?_; intro v' w1 hown' hgrow _ hfz; obtain ⟨g', cap', rfl⟩ := ownsRow_succ hown'; obtain ⟨hv1, hv2, hr2, hk2, hb2⟩ := h6.appended (by decide) (ownsRow_base h7 (show w'.heap.size ≤ W0.heap.size by omega)) (by omega) (Nat.le_refl _) (ownsRow_base hown' (show w'.heap.size ≤ W0.heap.size by omega)) hgrow; have hB3 : Blw w'.heap.size W (w1.setCell ⟨w'.heap.size, 0, none⟩ (.slice (some ⟨g', 0, none⟩) (pre.length + 1) cap')) := (.of (hb2)); clear hfz; have hc1 := hv1.cell; have hf1 := hv1.frozen)
        · refine ⟨KeepsOthers.refl _, rfl, pre, x, rfl, ?_, h1, h2, h3, h4, h5, _, h6, h7⟩
          have : ((pre.length : Int) == n) = true := by assumption
          have := eq_of_beq this
          omega
        · have hBe : (w1.setCell ⟨w'.heap.size, 0, none⟩ (.slice (some ⟨g', 0, none⟩) (pre.length + 1) cap')).heap[w'.heap.size + 1]? = W.heap[w'.heap.size + 1]? := by
            have hgr : World.grownBy _ w1 (Value.slice ad pre.length cap).ownBlock := hgrow
            refine (Below.heap_setCell _ _ _ _ (by simp)).trans ((hgr.block _ (by simp; omega) ?_).trans (Below.heap_alloc _ _ _ (by omega)))
            rcases h7.2 with ⟨e, _⟩ | ⟨g, cap2, cur, e, hbg, _⟩
            · rw [e]; simp [Value.ownBlock]
            · rw [e]; simp [Value.ownBlock]; omega
          have hne : pre.length ≠ n.toNat := fun e => by
            have : ((pre.length : Int) == n) = false := by assumption
            rw [beq_eq_false_iff_ne] at this
            omega
          have hr3 := hown'.kept (grownBy_setCell' w1 w'.heap.size (.slice (some ⟨g', 0, none⟩) (pre.length + 1) cap')) (.inr (hv1.not_row (by decide) hown').symm)
          have s3 := (hB3.block _ (show w.heap.size < w'.heap.size by omega)).trans h3
          have n3 := (hB3.block _ (show w.heap.size + 1 < w'.heap.size by omega)).trans h4
          have B3 : Blw w.heap.size w (w1.setCell ⟨w'.heap.size, 0, none⟩ (.slice (some ⟨g', 0, none⟩) (pre.length + 1) cap')) := h1.trans (hB3.mono (by omega))
          have sz3 : W0.heap.size ≤ (w1.setCell ⟨w'.heap.size, 0, none⟩ (.slice (some ⟨g', 0, none⟩) (pre.length + 1) cap')).heap.size := Nat.le_trans h2 hB3.size
          generalize w1.setCell ⟨w'.heap.size, 0, none⟩ (.slice (some ⟨g', 0, none⟩) (pre.length + 1) cap') = W3 at *
          have s3b : Boxed W3 w.heap.size 85 (.int .u64 (orL s pre : Int)) := s3
          have n3b : Boxed W3 (w.heap.size + 1) 3 (.int .i64 n) := n3
          have q1 := s3b.cell
          have q2 := s3b.frozen
          have B3d : Blw w.heap.size w W3.drew := B3.trans (.of (Below.refl _ W3).drew)
          have hg3 : GOK Tryd.prog W3.drew := hg.blw B3d (Nat.le_refl _)
          have fin : ∀ w4, Blw W3.heap.size W3.drew w4 → KeepsOthers W (w4.setCell ⟨w.heap.size, 0, none⟩ (.int .u64 (Go.bits BinOp.or IntKind.u64 (orL s pre : Int) (2 ^ x)))) ∧ (w4.setCell ⟨w.heap.size, 0, none⟩ (.int .u64 (Go.bits BinOp.or IntKind.u64 (orL s pre : Int) (2 ^ x)))).heap[w'.heap.size + 1]? = W.heap[w'.heap.size + 1]? ∧
              takeI w s n W0.heap.size w'.heap.size (pre ++ [x]) (w4.setCell ⟨w.heap.size, 0, none⟩ (.int .u64 (Go.bits BinOp.or IntKind.u64 (orL s pre : Int) (2 ^ x)))) := fun w4 hb4 => by
            have e2 : ((2 : Int) ^ x) = ((2 ^ x : Nat) : Int) := by simp
            rw [e2, or_walk hol hxp, ← orL_snoc]
            have s4 : Boxed w4 w.heap.size 85 (.int .u64 (orL s pre : Int)) := (hb4.block _ (show w.heap.size < W3.heap.size by omega)).trans s3b
            have n4 : Boxed w4 (w.heap.size + 1) 3 (.int .i64 n) := (hb4.block _ (show w.heap.size + 1 < W3.heap.size by omega)).trans n3b
            have o4 : Boxed w4 w'.heap.size 50 (.slice (some ⟨g', 0, none⟩) (pre.length + 1) cap') := (hb4.block _ (show w'.heap.size < W3.heap.size by omega)).trans hv2
            have hgl : g' < W3.heap.size := by
              rcases hr3.2 with ⟨e, _⟩ | ⟨g, cap2, cur, e, _, hgb, _⟩
              · cases e
              · cases e; exact (Array.getElem?_eq_some_iff.1 hgb).1
            have r4 : w4.ownsRow W0.heap.size 3 1 (.slice (some ⟨g', 0, none⟩) (pre.length + 1) cap') (pre.length + 1) ((pre.map fun (i : Nat) => Value.int .i64 (i : Int)) ++ [Value.int .i64 (x : Int)]) := by
              refine ⟨hr3.1, ?_⟩
              rcases hr3.2 with ⟨e, _⟩ | ⟨g, cap2, cur, e, k1, hgb, k2⟩
              · cases e
              · cases e
                exact .inr ⟨g', cap', cur, rfl, k1, (hb4.block _ hgl).trans hgb, k2⟩
            refine ⟨(hk2.trans (KeepsOthers.drew W3)).trans ((keeps_blw (A := W3.drew) hb4).trans (KeepsOthers.setCell _ _ _)), (Below.heap_setCell _ _ _ _ (by simp; omega)).trans ((hb4.block _ (show w'.heap.size + 1 < W3.heap.size by omega)).trans hBe), ?_⟩
            have b4 : Blw w.heap.size w w4 := B3d.trans (hb4.mono (by omega))
            refine ⟨(.of (b4.toBelow.setCell (p := ⟨w.heap.size, 0, none⟩) (Nat.le_refl _) _)), Nat.le_trans (Nat.le_trans sz3 hb4.size) (grownBy_setCell' w4 _ _).size, s4.set _, (Below.heap_setCell _ _ _ _ (by simp)).trans n4, by simp; omega, _, (Below.heap_setCell _ _ _ _ (by simp; omega)).trans o4, ?_⟩
            have := r4.kept (grownBy_setCell' w4 w.heap.size (.int .u64 (orL s (pre ++ [x]) : Int))) (.inr (s4.not_row (by decide) r4).symm)
            simpa using this
          gi_region_with_o (refine ⟨trivial, ?_⟩; gi_at_call 97; refine (CallsIn.inRound l (bit_calls hbt x hx64 W3.drew hg3)).mono ?_; rintro e w4 ⟨rfl, hb4⟩; have s4 : Boxed w4 w.heap.size 85 (.int .u64 (orL s pre : Int)) := (hb4.block _ (show w.heap.size < W3.heap.size by omega)).trans s3b; have q3 := s4.cell; have q4 := s4.frozen)
          all_goals (gi_wp2; exact fin w4 hb4)
      case done =>
        rintro D W hT hK hD
        rw [bitsL_compl hs] at hT
        have hnn : 0 ≤ n := by omega
        have hlen := freeL_len s
        have h5' := hT.2.2.2.2.1
        have hall : (freeL (s : Int)).take n.toNat = freeL (s : Int) := List.take_of_length_le (by omega)
        obtain ⟨h1, h2, h3, h4, h5, v, h6, h7⟩ := hT
        obtain ⟨ad, cap, rfl⟩ := ownsRow_form h7
        have k3 := h3.cell
        have k6 := h6.cell
        gi_wp2
        refine region_calm ?_
        gi_region_with_o (fail)
        all_goals gi_wp2
        all_goals refine ⟨by simp, .inl ⟨_, _, rfl, run_takeDeferred (show W.drew.heap[D]? = _ from hK), ?_⟩⟩
        all_goals refine ⟨_, res75 _ _, _, rfl, (.of (⟨h1.os, h1.tape, h1.output, Nat.le_trans h1.size (grownBy_putObj' W.drew D (.deferred none)).size, fun k hk => (World.putObj_heap_other (by omega)).trans (h1.block k hk)⟩)), fun h => absurd h (by omega), fun _ h => absurd h (by omega), fun _ _ => ?_⟩
        all_goals rw [hall]
        all_goals exact ⟨_, rfl, ownsRow_putObj (ownsRow_base h7 (by omega)) _ hK rfl⟩
      case stop =>
        rintro D c pre W hpre ⟨rfl, pre0, x, rfl, hl, hT⟩ hK hD
        rw [bitsL_compl hs] at hpre
        have hnn : 0 ≤ n := by omega
        have hall : (freeL (s : Int)).take n.toNat = pre0 := by
          obtain ⟨r, hr⟩ := hpre
          rw [← hr, ← hl]; simp
        clear hl
        obtain ⟨h1, h2, h3, h4, h5, v, h6, h7⟩ := hT
        obtain ⟨ad, cap, rfl⟩ := ownsRow_form h7
        have k3 := h3.cell
        have k6 := h6.cell
        gi_wp2
        refine region_calm ?_
        gi_region_with_o (fail)
        all_goals gi_wp2
        all_goals refine ⟨by simp, .inl ⟨_, _, rfl, run_takeDeferred (show W.drew.heap[D]? = _ from hK), ?_⟩⟩
        all_goals refine ⟨_, res75 _ _, _, rfl, (.of (⟨h1.os, h1.tape, h1.output, Nat.le_trans h1.size (grownBy_putObj' W.drew D (.deferred none)).size, fun k hk => (World.putObj_heap_other (by omega)).trans (h1.block k hk)⟩)), fun h => absurd h (by omega), fun _ h => absurd h (by omega), fun _ _ => ?_⟩
        all_goals rw [hall]
        all_goals exact ⟨_, rfl, ownsRow_putObj (ownsRow_base h7 (by omega)) _ hK rfl⟩
theorem res_take {W : World} {im : Nat → Prop} {v : Value} {l : List Int} {s e : Int} {cs : List Value} (h1 : v = pk false cs) (h2 : Rd W im (.list .i) l cs) (hs : inKind .u64 s = true) (he : inKind .i64 e = true) :
    RV ⟨fun _ => none, W, im⟩ (resAV [.list .i, .int .u64, .i] (l, s, e, ())) (.tuple #[v, .int .u64 s, .int .i64 e]) := by
  refine ⟨[v, .int .u64 s, .int .i64 e], rfl, cs, _, ?_, h2, [.int .u64 s], _, rfl, Rd.int.2 ⟨rfl, hs⟩, [.int .i64 e], _, rfl, Rd.int.2 ⟨rfl, he⟩, rfl⟩
  rw [h1]; rfl
theorem row_ints {W : World} {base : Nat} {v : Value} {l : List Nat} (h : W.ownsRow base 3 1 v l.length (l.map fun (i : Nat) => Value.int .i64 (i : Int))) (hl : ∀ i ∈ l, i < 64) (hn : l.length ≤ 64) (im : Nat → Prop) (him : ∀ k, base ≤ k → k < W.heap.size → im k) :
    ∃ cs, v = pk false cs ∧ Rd W im (.list .i) (l.map fun (i : Nat) => (i : Int)) cs := by
  have hb : List.length (l.map fun (i : Nat) => (i : Int)) * Ty.bytes .i ≤ top := by
    rw [List.length_map]
    have : (64 : Nat) * Ty.bytes .i ≤ top := by decide
    exact Nat.le_trans (Nat.mul_le_mul_right _ hn) this
  rcases h.2 with ⟨rfl, h0⟩ | ⟨g, cap, cur, rfl, hbg, hg, hc, hcm, hsz, htk⟩
  · refine ⟨[.slice none 0 0], rfl, Rd.list.2 ⟨hb, .inl ⟨rfl, ?_⟩⟩⟩
    rw [List.length_eq_zero_iff.1 h0]; rfl
  · refine ⟨[.slice (some ⟨g, 0, none⟩) l.length cap], rfl, Rd.list.2 ⟨hb, .inr ⟨⟨g, 0, none⟩, cap, l.map fun (i : Nat) => [Value.int .i64 (i : Int)], by rw [List.length_map], fun _ => rfl, by rw [List.length_map]; exact hc, hcm, ?_, fun _ => him g hbg (Array.getElem?_eq_some_iff.1 hg).1, ?_⟩⟩⟩
    · clear h hn hb hc htk hsz
      induction l with
      | nil => trivial
      | cons i l ih =>
        refine ⟨Rd.int.2 ⟨rfl, ?_⟩, ih fun j hj => hl j (List.mem_cons_of_mem _ hj)⟩
        have := hl i (List.mem_cons_self ..)
        rw [inKind_iff]; show -9223372036854775808 ≤ (i : Int) ∧ (i : Int) ≤ 9223372036854775807; omega
    · intro j x hj
      have hfl : (l.map fun (i : Nat) => [Value.int .i64 (i : Int)]).flatten = l.map fun (i : Nat) => Value.int .i64 (i : Int) := by
        clear h hl hn hb hc htk hsz hj
        induction l with
        | nil => rfl
        | cons i l ih => simp [ih]
      rw [hfl, ← htk] at hj
      have hj2 : cur.toList[j]? = some x := by
        rw [List.getElem?_take] at hj
        split at hj
        · exact hj
        · cases hj
      have : cur[j]? = some x := by rw [← Array.getElem?_toList]; exact hj2
      simp [World.cell?, hg, this]
theorem ok_seats_Take_of (hcn : ConOK Tryd.prog 70 c_seats_Count) (hbt : ConOK Tryd.prog 97 c_seats_bit) : ConOK Tryd.prog 75 c_seats_Take := by
  refine ⟨FnOK.of Tryd.func75 rfl (by kernel_rfl), ?_, ?_⟩
  · decide
  · intro w I x xs y hg hI hx hxy
    obtain ⟨s, n, u⟩ := x
    change Int at s; change Int at n
    match xs, hx with
    | [a, b], hx =>
      obtain ⟨⟨c1, rfl, r1⟩, ⟨c2, rfl, r2⟩, _⟩ := hx
      obtain ⟨rfl, k1⟩ := Rd.int.1 r1
      obtain ⟨rfl, k2⟩ := Rd.int.1 r2
      rw [inKind_iff] at k1 k2
      have k1 : 0 ≤ s ∧ s ≤ 18446744073709551615 := k1
      have k2 : -9223372036854775808 ≤ n ∧ n ≤ 9223372036854775807 := k2
      obtain ⟨s, rfl⟩ : ∃ m : Nat, s = (m : Int) := ⟨s.toNat, by omega⟩
      have hs : s < 18446744073709551616 := by omega
      refine Calls.mono (callsIn_wide.1 (take_in hcn hbt s hs n k2 w hg)) ?_
      rintro e W ⟨z, rfl, hb, h1, h2, h3⟩
      refine ⟨z, rfl, hb, ?_⟩
      have hy : takeW (s : Int) n = (y.1, y.2.1, y.2.2.1) := by
        have : some ((takeW (s : Int) n).1, (takeW (s : Int) n).2.1, (takeW (s : Int) n).2.2, ()) = some y := hxy
        obtain rfl := Option.some.inj this
        rfl
      obtain ⟨yl, ys, ye, yu⟩ := y
      change takeW (s : Int) n = (yl, ys, ye) at hy
      unfold takeW at hy
      have hnil : ∀ im, Rd W im (.list .i) [] [.slice none 0 0] := fun im => Rd.list.2 ⟨by simp, .inl ⟨rfl, rfl⟩⟩
      by_cases hn : n < 0
      · rw [if_pos hn] at hy
        cases hy
        rw [h1 hn]
        exact res_take rfl (hnil _) (by decide) (by decide)
      · rw [if_neg hn] at hy
        by_cases hc : 64 - cntW (s : Int) < n
        · rw [if_pos hc] at hy
          cases hy
          rw [h2 (by omega) hc]
          exact res_take rfl (hnil _) (by decide) (by decide)
        · rw [if_neg hc] at hy
          cases hy
          obtain ⟨v, rfl, hr⟩ := h3 (by omega) (by omega)
          have hl64 : ∀ i ∈ (freeL (s : Int)).take n.toNat, i < 64 := fun i hi => by
            have := List.mem_of_mem_take hi
            unfold freeL at this
            simp only [List.mem_filter, List.mem_range] at this
            exact this.1
          have hlen : ((freeL (s : Int)).take n.toNat).length ≤ 64 := by
            have h1 := freeL_len s
            have h2 := List.length_take_le n.toNat (freeL (s : Int))
            have h3 := (cntW_le (s : Int)).1
            have h4 : ((freeL (s : Int)).take n.toNat).length ≤ (freeL (s : Int)).length := by rw [List.length_take]; omega
            omega
          obtain ⟨cs, e1, e2⟩ := row_ints hr hl64 hlen (fun k => k < W.heap.size ∧ (k < w.heap.size → I k)) (fun k a b => ⟨b, fun h => absurd h (by omega)⟩)
          have := orL_lt hs _ hl64
          refine res_take e1 e2 ?_ (by decide)
          rw [inKind_iff]; show 0 ≤ ((orL s _ : Nat) : Int) ∧ ((orL s _ : Nat) : Int) ≤ 18446744073709551615
          omega
end Go.Proofs.YtghlolinkmlkeaaDoor
end

section
namespace Go.Proofs.YtghlolinkmlkeaaDoor
open Go Go.Co Go.Co.N Go.Proofs
theorem ok_seats_Take : ConOK Tryd.prog 75 c_seats_Take := ok_seats_Take_of ok_seats_Count ok_seats_bit
noncomputable def L_roster_Move : List (Nat × LD) := [(11, ⟨⟨[(2, .hole .i), (3, .hole .i), (4, .ptr 0 []), (5, .ptr 1 []), (8, .ptr 2 []), (13, .row (.st .seat)), (14, .nils), (49, .hole (.list .i)), (50, .hole .i), (51, .hole .i)], [(0, (.arr 64 (.st .entry)), .hole (.arr 64 (.st .entry))), (1, (.st .batch), .hole (.st .batch)), (2, (.arr 64 (.st .entry)), .hole (.arr 64 (.st .entry)))], []⟩, [(.exit 1, ⟨[(2, .hole .i), (3, .hole .i), (4, .ptr 0 []), (5, .ptr 1 []), (8, .ptr 2 []), (13, .row (.st .seat)), (14, .nils)], [(0, (.arr 64 (.st .entry)), .hole (.arr 64 (.st .entry))), (1, (.st .batch), .hole (.st .batch)), (2, (.arr 64 (.st .entry)), .hole (.arr 64 (.st .entry)))], []⟩)], 13, []⟩), (19, ⟨⟨[(2, .hole .i), (3, .hole .i), (4, .ptr 0 []), (5, .ptr 1 []), (8, .ptr 2 []), (13, .row (.st .seat)), (14, .row (.st .seat)), (78, .hole (.list .i)), (79, .hole .i), (80, .hole .i)], [(0, (.arr 64 (.st .entry)), .hole (.arr 64 (.st .entry))), (1, (.st .batch), .hole (.st .batch)), (2, (.arr 64 (.st .entry)), .hole (.arr 64 (.st .entry)))], []⟩, [(.exit 3, ⟨[(4, .ptr 0 []), (8, .ptr 2 []), (13, .row (.st .seat)), (14, .row (.st .seat))], [(0, (.arr 64 (.st .entry)), .hole (.arr 64 (.st .entry))), (2, (.arr 64 (.st .entry)), .hole (.arr 64 (.st .entry)))], []⟩)], 14, []⟩)]
noncomputable def Ls_roster_Move : List (Nat × List (Nat × LD)) := []
noncomputable def B_roster_Move : Bodies := []
theorem run_roster_Move (x : denL [(.arr 64 (.st .entry)), (.st .batch), .i, .i]) : run [(42, c_roster_Fits), (74, c_roster_names), (24, c_roster_Find), (51, c_roster_Taken), (75, c_seats_Take)] L_roster_Move Ls_roster_Move B_roster_Move Tryd.f47 [(.arr 64 (.st .entry)), (.st .batch), .i, .i] [(.arr 64 (.st .entry)), (.list (.st .seat)), (.list (.st .seat)), .i] x = g_roster_Move x := by kernel_rfl
theorem ok_roster_Move : ConOK Tryd.prog 47 c_roster_Move := con_ok (ConsOK.cons ok_roster_Fits (ConsOK.cons ok_roster_names (ConsOK.cons ok_roster_Find (ConsOK.cons ok_roster_Taken (ConsOK.cons ok_seats_Take (ConsOK.nil)))))) L_roster_Move Ls_roster_Move (B := B_roster_Move) (BodiesOK.nil) Tryd.func47 rfl fun x y hf h => (run_roster_Move x).trans (eq_roster_Move x y hf h)
noncomputable def L_plan_step : List (Nat × LD) := []
noncomputable def Ls_plan_step : List (Nat × List (Nat × LD)) := []
noncomputable def B_plan_step : Bodies := []
theorem run_plan_step (x : denL [(.st .tree), (.st .batch)]) : run [(41, c_keytree_Check), (42, c_roster_Fits), (44, c_plan_leavers), (43, c_plan_Replaced), (45, c_bits_OnesCount32), (46, c_ratchet_Turn), (47, c_roster_Move)] L_plan_step Ls_plan_step B_plan_step Tryd.f29 [(.st .tree), (.st .batch)] [(.st .tree), (.st .rekey), .i] x = g_plan_step x := by kernel_rfl
theorem ok_plan_step : ConOK Tryd.prog 29 c_plan_step := con_ok (ConsOK.cons ok_keytree_Check (ConsOK.cons ok_roster_Fits (ConsOK.cons ok_plan_leavers (ConsOK.cons ok_plan_Replaced (ConsOK.cons ok_bits_OnesCount32 (ConsOK.cons ok_ratchet_Turn (ConsOK.cons ok_roster_Move (ConsOK.nil)))))))) L_plan_step Ls_plan_step (B := B_plan_step) (BodiesOK.nil) Tryd.func29 rfl fun x y hf h => (run_plan_step x).trans (eq_plan_step x y hf h)
noncomputable def L_plan_items : List (Nat × LD) := [(8, ⟨⟨[(3, .ptr 1 []), (5, .ptr 2 []), (6, .fn 48 [0, 2]), (7, .hole (.int .u64)), (8, .hole (.int .u32)), (9, .hole .i), (10, .hole .i)], [(0, (.st .tree), .hole (.st .tree)), (1, (.st .rekey), .hole (.st .rekey)), (2, (.list (.st .item)), .row (.st .item))], []⟩, [(.exit 2, ⟨[(3, .ptr 1 []), (5, .ptr 2 []), (6, .fn 48 [0, 2]), (7, .hole (.int .u64)), (8, .hole (.int .u32)), (9, .hole .i)], [(0, (.st .tree), .hole (.st .tree)), (1, (.st .rekey), .hole (.st .rekey)), (2, (.list (.st .item)), .row (.st .item))], []⟩)], 11, []⟩), (5, ⟨⟨[(3, .ptr 1 []), (5, .ptr 2 []), (6, .fn 48 [0, 2]), (7, .hole (.int .u64)), (8, .hole (.int .u32)), (9, .hole .i)], [(0, (.st .tree), .hole (.st .tree)), (1, (.st .rekey), .hole (.st .rekey)), (2, (.list (.st .item)), .row (.st .item))], []⟩, [(.exit 0, ⟨[(3, .ptr 1 []), (5, .ptr 2 []), (6, .fn 48 [0, 2]), (8, .hole (.int .u32))], [(0, (.st .tree), .hole (.st .tree)), (1, (.st .rekey), .hole (.st .rekey)), (2, (.list (.st .item)), .row (.st .item))], []⟩)], 21, []⟩), (18, ⟨⟨[(5, .ptr 2 []), (6, .fn 48 [0, 2]), (8, .hole (.int .u32)), (13, .ptr 25 []), (54, .hole (.list (.st .seat))), (55, .hole .i), (56, .hole .i), (66, .hole (.arr 3 .i)), (67, .hole .i)], [(0, (.st .tree), .hole (.st .tree)), (2, (.list (.st .item)), .row (.st .item)), (25, (.st .seat), .hole (.st .seat))], []⟩, [(.exit 6, ⟨[(5, .ptr 2 []), (6, .fn 48 [0, 2]), (8, .hole (.int .u32)), (54, .hole (.list (.st .seat))), (55, .hole .i), (56, .hole .i)], [(0, (.st .tree), .hole (.st .tree)), (2, (.list (.st .item)), .row (.st .item))], []⟩)], 11, []⟩), (14, ⟨⟨[(5, .ptr 2 []), (6, .fn 48 [0, 2]), (8, .hole (.int .u32)), (54, .hole (.list (.st .seat))), (55, .hole .i), (56, .hole .i)], [(0, (.st .tree), .hole (.st .tree)), (2, (.list (.st .item)), .row (.st .item))], []⟩, [(.exit 4, ⟨[(5, .ptr 2 [])], [(2, (.list (.st .item)), .row (.st .item))], []⟩)], 23, []⟩)]
noncomputable def Ls_plan_items : List (Nat × List (Nat × LD)) := []
noncomputable def B_plan_items : Bodies := [bodyLine 48 Tryd.f48]
theorem run_plan_items (x : denL [(.st .tree), (.st .rekey)]) : run [(50, c_plan_nodeKey), (49, c_key_Seal), (51, c_roster_Taken), (43, c_plan_Replaced), (52, c_shape_Child), (40, c_shape_Mask), (53, c_shape_Path), (28, c_shape_Leaf)] L_plan_items Ls_plan_items B_plan_items Tryd.f30 [(.st .tree), (.st .rekey)] [(.list (.st .item))] x = g_plan_items x := by kernel_rfl
theorem ok_plan_items : ConOK Tryd.prog 30 c_plan_items := con_ok (ConsOK.cons ok_plan_nodeKey (ConsOK.cons ok_key_Seal (ConsOK.cons ok_roster_Taken (ConsOK.cons ok_plan_Replaced (ConsOK.cons ok_shape_Child (ConsOK.cons ok_shape_Mask (ConsOK.cons ok_shape_Path (ConsOK.cons ok_shape_Leaf (ConsOK.nil))))))))) L_plan_items Ls_plan_items (B := B_plan_items) (BodiesOK.cons Tryd.func48 rfl (BodiesOK.nil)) Tryd.func30 rfl fun x y hf h => (run_plan_items x).trans (eq_plan_items x y hf h)
noncomputable def L_plan_Next : List (Nat × LD) := []
noncomputable def Ls_plan_Next : List (Nat × List (Nat × LD)) := []
noncomputable def B_plan_Next : Bodies := []
theorem run_plan_Next (x : denL [(.st .tree), (.st .batch)]) : run [(29, c_plan_step), (30, c_plan_items)] L_plan_Next Ls_plan_Next B_plan_Next Tryd.f15 [(.st .tree), (.st .batch)] [(.st .tree), (.st .rekey), .i] x = g_plan_Next x := by kernel_rfl
theorem ok_plan_Next : ConOK Tryd.prog 15 c_plan_Next := con_ok (ConsOK.cons ok_plan_step (ConsOK.cons ok_plan_items (ConsOK.nil))) L_plan_Next Ls_plan_Next (B := B_plan_Next) (BodiesOK.nil) Tryd.func15 rfl fun x y hf h => (run_plan_Next x).trans (eq_plan_Next x y hf h)
end Go.Proofs.YtghlolinkmlkeaaDoor
end

section
namespace Go.Proofs.YtghlolinkmlkeaaDoor
open Go Go.Co Go.Co.N Go.Proofs
noncomputable def L_keytree_Start : List (Nat × LD) := [(3, ⟨⟨[(0, .ptr 0 []), (1, .ptr 1 []), (4, .hole .i)], [(0, (.st .tree), .hole (.st .tree)), (1, (.st .tree), .hole (.st .tree))], []⟩, [(.exit 0, ⟨[(0, .ptr 0 []), (1, .ptr 1 [])], [(0, (.st .tree), .hole (.st .tree)), (1, (.st .tree), .hole (.st .tree))], []⟩)], 10, []⟩)]
noncomputable def Ls_keytree_Start : List (Nat × List (Nat × LD)) := []
noncomputable def B_keytree_Start : Bodies := []
theorem run_keytree_Start (x : denL []) : run [] L_keytree_Start Ls_keytree_Start B_keytree_Start Tryd.f14 [] [(.st .tree)] x = g_keytree_Start x := by kernel_rfl
theorem ok_keytree_Start : ConOK Tryd.prog 14 c_keytree_Start := con_ok (ConsOK.nil) L_keytree_Start Ls_keytree_Start (B := B_keytree_Start) (BodiesOK.nil) Tryd.func14 rfl fun x y hf h => (run_keytree_Start x).trans (eq_keytree_Start x y hf h)
noncomputable def L_shape_Below : List (Nat × LD) := []
noncomputable def Ls_shape_Below : List (Nat × List (Nat × LD)) := []
noncomputable def B_shape_Below : Bodies := []
theorem run_shape_Below (x : denL [.i, .i]) : run [(39, c_shape_Level), (40, c_shape_Mask)] L_shape_Below Ls_shape_Below B_shape_Below Tryd.f27 [.i, .i] [.bool] x = g_shape_Below x := by kernel_rfl
theorem ok_shape_Below : ConOK Tryd.prog 27 c_shape_Below := con_ok (ConsOK.cons ok_shape_Level (ConsOK.cons ok_shape_Mask (ConsOK.nil))) L_shape_Below Ls_shape_Below (B := B_shape_Below) (BodiesOK.nil) Tryd.func27 rfl fun x y hf h => (run_shape_Below x).trans (eq_shape_Below x y hf h)
noncomputable def L_history_Play : List (Nat × LD) := [(5, ⟨⟨[(4, .ptr 0 []), (5, .row (.st .tree)), (6, .row .i), (18, .hole (.list (.st .batch))), (19, .hole .i), (20, .hole .i)], [(0, (.st .tree), .hole (.st .tree))], []⟩, [(.exit 0, ⟨[(5, .row (.st .tree)), (6, .row .i)], [(0, (.st .tree), .hole (.st .tree))], []⟩)], 41, [1000000, 0, 1, 2]⟩)]
noncomputable def Ls_history_Play : List (Nat × List (Nat × LD)) := []
noncomputable def B_history_Play : Bodies := []
theorem run_history_Play (x : denL [(.list (.st .batch))]) : run [(14, c_keytree_Start), (15, c_plan_Next)] L_history_Play Ls_history_Play B_history_Play Tryd.f7 [(.list (.st .batch))] [(.list (.st .tree)), (.list .i)] x = g_history_Play x := by kernel_rfl
theorem ok_history_Play : ConOK Tryd.prog 7 c_history_Play := con_ok (ConsOK.cons ok_keytree_Start (ConsOK.cons ok_plan_Next (ConsOK.nil))) L_history_Play Ls_history_Play (B := B_history_Play) (BodiesOK.nil) Tryd.func7 rfl fun x y hf h => (run_history_Play x).trans (eq_history_Play x y hf h)
noncomputable def L_history_came : List (Nat × LD) := [(4, ⟨⟨[(3, .ptr 1 []), (4, .ptr 2 []), (5, .ptr 3 []), (6, .row (.st .entry)), (13, .hole (.arr 64 (.st .entry))), (14, .hole .i)], [(1, (.st .tree), .hole (.st .tree)), (3, (.st .batch), .agv  .batch (.cons (.row .i) (.cons (.nils) (.nil))))], []⟩, [(.exit 0, ⟨[(4, .ptr 2 []), (5, .ptr 3 []), (6, .row (.st .entry))], [(1, (.st .tree), .hole (.st .tree)), (3, (.st .batch), .agv  .batch (.cons (.row .i) (.cons (.nils) (.nil))))], []⟩)], 40, [1000000, 1, 3]⟩), (15, ⟨⟨[(4, .ptr 2 []), (5, .ptr 3 []), (45, .slf 4), (46, .hole .i), (47, .hole .i)], [(3, (.st .batch), .agv  .batch (.cons (.slf 5) (.cons (.row .i) (.nil))))], [(4, .unit, (.st .entry))]⟩, [(.exit 2, ⟨[(4, .ptr 2 []), (5, .ptr 3 [])], [(3, (.st .batch), .agv  .batch (.cons (.slf 5) (.cons (.row .i) (.nil))))], [(4, .unit, (.st .entry))]⟩)], 35, [1000000, 3, 4]⟩)]
noncomputable def Ls_history_came : List (Nat × List (Nat × LD)) := []
noncomputable def B_history_came : Bodies := []
theorem run_history_came (x : denL [(.st .tree), (.st .tree)]) : run [] L_history_came Ls_history_came B_history_came Tryd.f20 [(.st .tree), (.st .tree)] [(.st .batch)] x = g_history_came x := by kernel_rfl
theorem ok_history_came : ConOK Tryd.prog 20 c_history_came := con_ok (ConsOK.nil) L_history_came Ls_history_came (B := B_history_came) (BodiesOK.nil) Tryd.func20 rfl fun x y hf h => (run_history_came x).trans (eq_history_came x y hf h)
noncomputable def L_history_Right : List (Nat × LD) := [(4, ⟨⟨[(0, .hole (.list (.st .tree))), (19, .hole (.list (.st .tree))), (20, .hole .i), (21, .hole .i)], [], []⟩, [(.ret, ⟨[(2, .hole .bool)], [], []⟩), (.exit 0, ⟨[], [], []⟩)], 33, [1000000]⟩)]
noncomputable def Ls_history_Right : List (Nat × List (Nat × LD)) := []
noncomputable def B_history_Right : Bodies := []
theorem run_history_Right (x : denL [(.list (.st .tree))]) : run [(14, c_keytree_Start), (20, c_history_came), (15, c_plan_Next)] L_history_Right Ls_history_Right B_history_Right Tryd.f9 [(.list (.st .tree))] [.bool] x = g_history_Right x := by kernel_rfl
theorem ok_history_Right : ConOK Tryd.prog 9 c_history_Right := con_ok (ConsOK.cons ok_keytree_Start (ConsOK.cons ok_history_came (ConsOK.cons ok_plan_Next (ConsOK.nil)))) L_history_Right Ls_history_Right (B := B_history_Right) (BodiesOK.nil) Tryd.func9 rfl fun x y hf h => (run_history_Right x).trans (eq_history_Right x y hf h)
noncomputable def L_history_On : List (Nat × LD) := [(4, ⟨⟨[(1, .hole .i), (28, .hole (.list (.st .tree))), (29, .hole .i), (30, .hole .i)], [], []⟩, [(.ret, ⟨[(8, .hole .bool)], [], []⟩), (.exit 0, ⟨[], [], []⟩)], 31, [1000000]⟩)]
noncomputable def Ls_history_On : List (Nat × List (Nat × LD)) := []
noncomputable def B_history_On : Bodies := []
theorem run_history_On (x : denL [(.list (.st .tree)), .i, .i, .i]) : run [(24, c_roster_Find)] L_history_On Ls_history_On B_history_On Tryd.f12 [(.list (.st .tree)), .i, .i, .i] [.bool] x = g_history_On x := by kernel_rfl
theorem ok_history_On : ConOK Tryd.prog 12 c_history_On := con_ok (ConsOK.cons ok_roster_Find (ConsOK.nil)) L_history_On Ls_history_On (B := B_history_On) (BodiesOK.nil) Tryd.func12 rfl fun x y hf h => (run_history_On x).trans (eq_history_On x y hf h)
noncomputable def L_history_Excused : List (Nat × LD) := []
noncomputable def Ls_history_Excused : List (Nat × List (Nat × LD)) := [(38, [(2, ⟨⟨[(0, .hole (.list (.st .reveal))), (1, .fn 26 [0, 1, 2]), (7, .hole .i), (8, .hole .i)], [(0, (.list (.st .tree)), .hole (.list (.st .tree))), (1, .i, .hole .i), (2, .i, .hole .i)], []⟩, [(.ret, ⟨[(4, .hole .i)], [(0, (.list (.st .tree)), .hole (.list (.st .tree))), (1, .i, .hole .i), (2, .i, .hole .i)], []⟩), (.exit 0, ⟨[], [(0, (.list (.st .tree)), .hole (.list (.st .tree))), (1, .i, .hole .i), (2, .i, .hole .i)], []⟩)], 31, [1000000, 0, 1, 2]⟩)])]
noncomputable def B_history_Excused : Bodies := [bodyLine 26 Tryd.f26, bodyLine 25 Tryd.f25, bodyLine 38 Tryd.f38]
theorem run_history_Excused (x : denL [(.list (.st .tree)), (.list (.st .reveal)), .i, .i]) : run [(12, c_history_On), (24, c_roster_Find), (28, c_shape_Leaf), (27, c_shape_Below)] L_history_Excused Ls_history_Excused B_history_Excused Tryd.f13 [(.list (.st .tree)), (.list (.st .reveal)), .i, .i] [.bool] x = g_history_Excused x := by kernel_rfl
theorem ok_history_Excused : ConOK Tryd.prog 13 c_history_Excused := con_ok (ConsOK.cons ok_history_On (ConsOK.cons ok_roster_Find (ConsOK.cons ok_shape_Leaf (ConsOK.cons ok_shape_Below (ConsOK.nil))))) L_history_Excused Ls_history_Excused (B := B_history_Excused) (BodiesOK.cons Tryd.func26 rfl (BodiesOK.cons Tryd.func25 rfl (BodiesOK.cons Tryd.func38 rfl (BodiesOK.nil)))) Tryd.func13 rfl fun x y hf h => (run_history_Excused x).trans (eq_history_Excused x y hf h)
end Go.Proofs.YtghlolinkmlkeaaDoor
end

section
namespace Go.Proofs.YtghlolinkmlkeaaDoor
open Go Go.Co Go.Co.N Go.Proofs
theorem run_history_Born (x : denL [(.list (.st .tree))]) : evF bornE Tryd.f8 (body Tryd.f8) [(.list (.st .tree))] x (retK T Tryd.f8.results.toList [(.list (.st .reveal))]) = g_history_Born x := by kernel_rfl
theorem ok_history_Born : ConOK Tryd.prog 8 c_history_Born := by
  have hs : shapeOK Tryd.f8 c_history_Born = true := by kernel_rfl
  simp only [shapeOK, Bool.and_eq_true, Bool.not_eq_true'] at hs
  obtain ⟨⟨⟨⟨h1, h2⟩, h3⟩, h4⟩, h5⟩ := hs
  obtain ⟨b, hb⟩ := Option.isSome_iff_exists.1 h1
  have hbb : body Tryd.f8 = b := by unfold body; rw [hb]
  refine con_of Tryd.func8 hb h2 (E := bornE) (fun C hP => ?_) (fun C _ => lpM_ok (show bornE.lp = lpM bornL from EF_lp (con := [(9, c_history_Right)]) (fr := []) bornLs bornB 4 bornL)) (fun C hP => SpOK.hits (id := 10) (h := bornH) rfl b (by have := piece_ok hP ok_history_Right; rwa [hbb] at this)) rfl h3 h4 h5 fun x y hf hxy => ?_
  · have h : EOK Tryd.prog C bornE0 := EF_ok (ConsOK.cons ok_history_Right ConsOK.nil) bornLs (BodiesOK.cons Tryd.func16 rfl BodiesOK.nil) C hP 4 bornL
    exact ⟨h.1, h.2, h.3, h.4, h.5⟩
  · have := (run_history_Born x).trans (eq_history_Born x y hf hxy)
    rwa [hbb] at this
end Go.Proofs.YtghlolinkmlkeaaDoor
end

section
namespace Go.Proofs.YtghlolinkmlkeaaDoor
open Go Go.Co Go.Co.N Go.Proofs
noncomputable def L_ref02_Gives : List (Nat × LD) := []
noncomputable def Ls_ref02_Gives : List (Nat × List (Nat × LD)) := []
noncomputable def B_ref02_Gives : Bodies := []
theorem run_ref02_Gives (x : denL [(.st .key), (.st .key)]) : run [(23, c_ref02_Good)] L_ref02_Gives Ls_ref02_Gives B_ref02_Gives Tryd.f11 [(.st .key), (.st .key)] [.bool] x = g_ref02_Gives x := by kernel_rfl
theorem ok_ref02_Gives : ConOK Tryd.prog 11 c_ref02_Gives := con_ok (ConsOK.cons ok_ref02_Good (ConsOK.nil)) L_ref02_Gives Ls_ref02_Gives (B := B_ref02_Gives) (BodiesOK.nil) Tryd.func11 rfl fun x y hf h => (run_ref02_Gives x).trans (eq_ref02_Gives x y hf h)
noncomputable def L_law22_lives : List (Nat × LD) := []
noncomputable def Ls_law22_lives : List (Nat × List (Nat × LD)) := []
noncomputable def B_law22_lives : Bodies := []
theorem run_law22_lives (x : denL []) : run [(7, c_history_Play), (9, c_history_Right), (12, c_history_On), (13, c_history_Excused), (8, c_history_Born)] L_law22_lives Ls_law22_lives B_law22_lives Tryd.f6 [] [.bool] x = g_law22_lives x := by kernel_rfl
theorem ok_law22_lives : ConOK Tryd.prog 6 c_law22_lives := con_ok (ConsOK.cons ok_history_Play (ConsOK.cons ok_history_Right (ConsOK.cons ok_history_On (ConsOK.cons ok_history_Excused (ConsOK.cons ok_history_Born (ConsOK.nil)))))) L_law22_lives Ls_law22_lives (B := B_law22_lives) (BodiesOK.nil) Tryd.func6 rfl fun x y hf h => (run_law22_lives x).trans (eq_law22_lives x y hf h)
noncomputable def L_law22_HistoryNames : List (Nat × LD) := [(9, ⟨⟨[(5, .hole (.list (.st .reveal))), (6, .hole .i), (7, .hole .i), (8, .hole .i), (9, .ptr 0 []), (19, .hole (.list (.st .tree))), (20, .hole .i), (21, .hole .i)], [(0, (.st .tree), .hole (.st .tree))], []⟩, [(.ret, ⟨[(2, .hole .bool)], [], []⟩), (.exit 2, ⟨[(5, .hole (.list (.st .reveal))), (6, .hole .i), (7, .hole .i), (19, .hole (.list (.st .tree))), (20, .hole .i), (21, .hole .i)], [], []⟩)], 10, []⟩), (7, ⟨⟨[(5, .hole (.list (.st .reveal))), (6, .hole .i), (7, .hole .i), (19, .hole (.list (.st .tree))), (20, .hole .i), (21, .hole .i)], [], []⟩, [(.ret, ⟨[(2, .hole .bool)], [], []⟩), (.exit 0, ⟨[(5, .hole (.list (.st .reveal))), (6, .hole .i)], [], []⟩)], 21, []⟩)]
noncomputable def Ls_law22_HistoryNames : List (Nat × List (Nat × LD)) := []
noncomputable def B_law22_HistoryNames : Bodies := []
theorem run_law22_HistoryNames (x : denL [(.list (.st .batch))]) : run [(6, c_law22_lives), (7, c_history_Play), (8, c_history_Born)] L_law22_HistoryNames Ls_law22_HistoryNames B_law22_HistoryNames Tryd.f3 [(.list (.st .batch))] [.bool] x = g_law22_HistoryNames x := by kernel_rfl
theorem ok_law22_HistoryNames : ConOK Tryd.prog 3 c_law22_HistoryNames := con_ok (ConsOK.cons ok_law22_lives (ConsOK.cons ok_history_Play (ConsOK.cons ok_history_Born (ConsOK.nil)))) L_law22_HistoryNames Ls_law22_HistoryNames (B := B_law22_HistoryNames) (BodiesOK.nil) Tryd.func3 rfl fun x y hf h => (run_law22_HistoryNames x).trans (eq_law22_HistoryNames x y hf h)
noncomputable def L_law22_HistoryFronts : List (Nat × LD) := [(7, ⟨⟨[(3, .hole (.list (.st .tree))), (5, .hole .i)], [], []⟩, [(.ret, ⟨[(2, .hole .bool)], [], []⟩), (.exit 0, ⟨[(3, .hole (.list (.st .tree)))], [], []⟩)], 10, []⟩), (12, ⟨⟨[(3, .hole (.list (.st .tree))), (6, .hole .i)], [], []⟩, [(.ret, ⟨[(2, .hole .bool)], [], []⟩), (.exit 2, ⟨[], [], []⟩)], 10, []⟩)]
noncomputable def Ls_law22_HistoryFronts : List (Nat × List (Nat × LD)) := []
noncomputable def B_law22_HistoryFronts : Bodies := []
theorem run_law22_HistoryFronts (x : denL [(.list (.st .batch))]) : run [(6, c_law22_lives), (7, c_history_Play), (9, c_history_Right)] L_law22_HistoryFronts Ls_law22_HistoryFronts B_law22_HistoryFronts Tryd.f4 [(.list (.st .batch))] [.bool] x = g_law22_HistoryFronts x := by kernel_rfl
theorem ok_law22_HistoryFronts : ConOK Tryd.prog 4 c_law22_HistoryFronts := con_ok (ConsOK.cons ok_law22_lives (ConsOK.cons ok_history_Play (ConsOK.cons ok_history_Right (ConsOK.nil)))) L_law22_HistoryFronts Ls_law22_HistoryFronts (B := B_law22_HistoryFronts) (BodiesOK.nil) Tryd.func4 rfl fun x y hf h => (run_law22_HistoryFronts x).trans (eq_law22_HistoryFronts x y hf h)
noncomputable def L_law22_HistoryOneWay : List (Nat × LD) := [(9, ⟨⟨[(3, .hole (.list (.st .tree))), (5, .mp 0), (6, .hole .i), (7, .ptr 1 []), (8, .hole .i), (21, .hole (.list (.st .tree))), (22, .hole .i), (23, .hole .i)], [(1, (.st .tree), .hole (.st .tree))], [(0, .i, .i)]⟩, [(.ret, ⟨[(2, .hole .bool)], [], []⟩), (.exit 2, ⟨[(3, .hole (.list (.st .tree))), (5, .mp 0), (21, .hole (.list (.st .tree))), (22, .hole .i), (23, .hole .i)], [], [(0, .i, .i)]⟩)], 11, []⟩), (6, ⟨⟨[(3, .hole (.list (.st .tree))), (5, .mp 0), (21, .hole (.list (.st .tree))), (22, .hole .i), (23, .hole .i)], [], [(0, .i, .i)]⟩, [(.ret, ⟨[(2, .hole .bool)], [], []⟩), (.exit 0, ⟨[], [], []⟩)], 23, []⟩)]
noncomputable def Ls_law22_HistoryOneWay : List (Nat × List (Nat × LD)) := []
noncomputable def B_law22_HistoryOneWay : Bodies := []
theorem run_law22_HistoryOneWay (x : denL [(.list (.st .batch))]) : run [(6, c_law22_lives), (7, c_history_Play), (10, c_ref11_Of), (11, c_ref02_Gives)] L_law22_HistoryOneWay Ls_law22_HistoryOneWay B_law22_HistoryOneWay Tryd.f5 [(.list (.st .batch))] [.bool] x = g_law22_HistoryOneWay x := by kernel_rfl
theorem ok_law22_HistoryOneWay : ConOK Tryd.prog 5 c_law22_HistoryOneWay := con_ok (ConsOK.cons ok_law22_lives (ConsOK.cons ok_history_Play (ConsOK.cons ok_ref11_Of (ConsOK.cons ok_ref02_Gives (ConsOK.nil))))) L_law22_HistoryOneWay Ls_law22_HistoryOneWay (B := B_law22_HistoryOneWay) (BodiesOK.nil) Tryd.func5 rfl fun x y hf h => (run_law22_HistoryOneWay x).trans (eq_law22_HistoryOneWay x y hf h)
end Go.Proofs.YtghlolinkmlkeaaDoor
end
