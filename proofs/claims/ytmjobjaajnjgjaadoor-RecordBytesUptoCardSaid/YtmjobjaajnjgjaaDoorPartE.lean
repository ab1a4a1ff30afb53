/-
  Writing bits: the program's writer holds what was put.
  A record's bytes: the writer's.
  Reading bits: the program's reader takes what stands there.
  What is read of a record's bytes.
  The record's reader answers the record that the bits say.
  Records that are right; the reference's bits.
  The reference's bits: fields that are right, bytes of bits, bits of bytes.
  The reference packs fields, writes and reads records.
  The record of a step, and the step of a record.
  What each function computes, printed by a program of my own (wip/tool) out of its run.
  Laws of chapter 13: the record of a step plays it again; what is written is read.
  Laws of chapter 13: what is written is read again, nothing longer and nothing shorter; records of steps lead through the same trees.
  RecordBytes: the program's bytes are the document's, for texts of at most a million bytes.
  Functions whose answers' slices are new memory: such a contract from an evaluation.
  The seat's types; what a contract is made from.
  A range over an iterator that keeps a box of its own: what the loop's body must keep.
  The n least free slots: the program's function that ranges over an iterator of its own.
  slices.Clone at whole numbers: it answers the same row, in memory of its own.
  The program computes so: printed by a program of my own (wip/tool).
  The program computes so: printed by a program of my own (wip/tool).
  No conditions. Own text, for the claims about coterie.
-/
import Derived.Test.YtmjobjaajnjgjaaDoorProg
import Derived.KernelRfl
import Derived.RangeFuncMany
import Derived.RangeFuncBox
import Derived.OwnWalkIn
import Derived.RangeFuncKeeps
import Derived.RangeFuncLeaves
import Derived.RangeFuncCalls
import Derived.Shelf.Abstract
import Derived.WalkKit
import Derived.TacticsInMore
import Derived.LoopNIn
import Derived.LoopIn
import Derived.Maps.AppendAt
import Derived.RegionIn
import Derived.Shelf.RegionOpen
import Derived.Deep.LoopGhost
import Derived.Lib.Walk
import Derived.Lib.SliceRun
import Derived.Test.YtmjobjaajnjgjaaDoorPartD

section
namespace Go.Co.N
open Go Go.Co

theorem lat_end {d : List Int} {x : Int} : lat (d ++ [x]) (d.length : Int) = x := by
  unfold lat
  simp [List.getD]
theorem lput_end {d : List Int} {x y : Int} : lput (d ++ [x]) (d.length : Int) y = d ++ [y] := by
  unfold lput
  simp
def wS (V left : Nat) (bs : List Bool) : (Unit × Int × Int × Unit) × ((Ctr × List Int × Unit) × Unit) × Unit := (((), (V : Int), (left : Int), ()), ((Ctr.mk (bs.length : Int), packB bs, ()), ()), ())
def wZ (bs : List Bool) : Unit × ((Ctr × List Int × Unit) × Unit) × Unit := ((), ((Ctr.mk (bs.length : Int), packB bs, ()), ()), ())
def roomN (N : Nat) : Nat := 8 - N % 8
def cutN (N left : Nat) : Nat := min (roomN N) left
theorem putStep (V left : Nat) (bs : List Bool) (hV : V < 18446744073709551616) (h0 : 0 < left) (h64 : left ≤ 64) (hb : bs.length ≤ 1000000) :
    g_record_Write_r2 (wS V left bs) = some (.inl (wS V (left - cutN bs.length left) (bs ++ bitsN (cutN bs.length left) (V / 2 ^ (left - cutN bs.length left))))) := by
  generalize hN : bs.length = N at *
  generalize hn : cutN N left = n
  have hnf : n ≤ roomN N := by rw [← hn]; exact Nat.min_le_left _ _
  have hnl : n ≤ left := by rw [← hn]; exact Nat.min_le_right _ _
  have hf8 : roomN N ≤ 8 := by unfold roomN; omega
  have hf1 : 1 ≤ roomN N := by unfold roomN; omega
  have hn1 : 1 ≤ n := by rw [← hn]; unfold cutN; omega
  have e1 : IntKind.i64.wrap (8 - bw BinOp.and IntKind.i64 (N : Int) 7) = ((roomN N : Nat) : Int) := by
    rw [and7 N (by omega), i64_in _ (by omega)]; unfold roomN; omega
  have e2 : min ((roomN N : Nat) : Int) (left : Int) = (n : Int) := by rw [← hn]; unfold cutN; omega
  have e3 : IntKind.i64.wrap ((left : Int) - (n : Int)) = ((left - n : Nat) : Int) := by rw [i64_in _ (by omega)]; omega
  have e4 : IntKind.u64.wrap ((left - n : Nat) : Int) = ((left - n : Nat) : Int) := u64N _ (by omega)
  have e5 : shrI IntKind.u64 (V : Int) ((left - n : Nat) : Int) = ((V / 2 ^ (left - n) : Nat) : Int) := shrN _ _ _ (by simp [IntKind.bits]; omega)
  have e6 : IntKind.u64.wrap (n : Int) = (n : Int) := u64N _ (by omega)
  have e7 := mask8 n (by omega)
  have e8 : IntKind.i64.wrap (((roomN N : Nat) : Int) - (n : Int)) = ((roomN N - n : Nat) : Int) := by rw [i64_in _ (by omega)]; omega
  have e9 : IntKind.u64.wrap ((roomN N - n : Nat) : Int) = ((roomN N - n : Nat) : Int) := u64N _ (by omega)
  have hp : 2 ^ n ≤ 256 := by
    have : 2 ^ n ≤ 2 ^ 8 := Nat.pow_le_pow_right (by omega) (by omega)
    simpa using this
  have hp0 : 0 < 2 ^ n := Nat.two_pow_pos n
  generalize hc : bitsN n (V / 2 ^ (left - n)) = c
  have hcl : c.length = n := by rw [← hc]; exact len_bitsN _ _
  have hcv : valB c = V / 2 ^ (left - n) % 2 ^ n := by rw [← hc]; exact valB_bitsN _ _
  have hcv2 : valB c < 2 ^ n := by rw [hcv]; exact Nat.mod_lt _ hp0
  have e10 : bw BinOp.and IntKind.u8 (IntKind.u8.wrap ((V / 2 ^ (left - n) : Nat) : Int)) ((2 ^ n - 1 : Nat) : Int) = ((valB c : Nat) : Int) := by
    rw [u8N, and8 _ _ (by omega) (by omega), and_mask, hcv]
    congr 1
    have : (256 : Nat) = 2 ^ n * 2 ^ (8 - n) := by rw [← Nat.pow_add, show n + (8 - n) = 8 by omega]
    rw [this, Nat.mod_mul_right_mod]
  have hsh : valB c * 2 ^ (roomN N - n) < 256 := by
    calc valB c * 2 ^ (roomN N - n) < 2 ^ n * 2 ^ (roomN N - n) := Nat.mul_lt_mul_of_pos_right hcv2 (Nat.two_pow_pos _)
      _ = 2 ^ roomN N := by rw [← Nat.pow_add]; congr 1; omega
      _ ≤ 2 ^ 8 := Nat.pow_le_pow_right (by omega) hf8
  have e11 : shlI IntKind.u8 ((valB c : Nat) : Int) ((roomN N - n : Nat) : Int) = ((valB c * 2 ^ (roomN N - n) : Nat) : Int) := shl8 _ _ hsh (by omega)
  have e12 : IntKind.i64.wrap ((N : Int) + (n : Int)) = ((bs ++ c).length : Int) := by rw [List.length_append, hN, hcl, i64_in _ (by omega)]; omega
  have hlt : decide ((0 : Int) < (left : Int)) = true := by simp; omega
  have hpl : (packB bs).length ≤ 125000 := by rw [len_packB, hN]; omega
  simp only [wS, hN, g_record_Write_r2, hlt, cond_true, e1, e2, e3, e4, e5, e6, e7, e8, e9, e10, e11, e12]
  by_cases h8 : N % 8 = 0
  · have hfr : roomN N = 8 := by unfold roomN; omega
    have hd : decide (((roomN N : Nat) : Int) = 8) = true := by rw [hfr]; rfl
    have hl1 : ((packB bs).append [0]).length = (packB bs).length + 1 := by simp
    have e13 : IntKind.i64.wrap ((((packB bs).append [0]).length : Int) - 1) = ((packB bs).length : Int) := by rw [hl1, i64_in _ (by omega)]; omega
    have hd2 : decide (((packB bs).length + 1) * 1 ≤ 140737488355328) = true := by simp; omega
    have hd3 : (decide (0 ≤ ((packB bs).length : Int)) && decide (((packB bs).length : Int) < (((packB bs).append [0]).length : Int))) = true := by rw [hl1]; simp; omega
    have e14 : lat ((packB bs).append [0]) ((packB bs).length : Int) = 0 := lat_end
    have e15 : bw BinOp.or IntKind.u8 0 ((valB c * 2 ^ (roomN N - n) : Nat) : Int) = ((byteB c : Nat) : Int) := by
      have := or8 0 _ (by omega) hsh
      rw [show ((0 : Nat) : Int) = 0 from rfl] at this
      rw [this, Nat.zero_or, hfr, byteB, hcl]
    have e16 : lput ((packB bs).append [0]) ((packB bs).length : Int) ((byteB c : Nat) : Int) = packB (bs ++ c) := by
      rw [packB_step (by rw [hN]; exact h8) (by omega) (by omega)]
      exact lput_end
    simp only [hd, hd2, e13, hd3, cond_true, e14, e15, e16]
  · have hd : decide (((roomN N : Nat) : Int) = 8) = false := by simp; unfold roomN; omega
    obtain ⟨l0, e, hbs, hl0, hel⟩ := split8 bs
    rw [hN] at hl0 hel
    obtain ⟨k1, k2⟩ := packB_more (c := c) hl0 (d := e) (by omega) (by rw [hel, hcl]; unfold roomN at hnf; omega)
    rw [← hbs] at k1 k2
    have hl1 : (packB bs).length = (packB l0).length + 1 := by rw [k1]; simp
    have e13 : IntKind.i64.wrap (((packB bs).length : Int) - 1) = ((packB l0).length : Int) := by rw [i64_in _ (by omega)]; omega
    have hd3 : (decide (0 ≤ ((packB l0).length : Int)) && decide (((packB l0).length : Int) < ((packB bs).length : Int))) = true := by simp; omega
    have e14 : lat (packB bs) ((packB l0).length : Int) = (byteB e : Int) := by rw [k1]; exact lat_end
    have hfr : roomN N - n = 8 - e.length - c.length := by rw [hel, hcl]; rfl
    have e15 : bw BinOp.or IntKind.u8 (byteB e : Int) ((valB c * 2 ^ (roomN N - n) : Nat) : Int) = ((byteB (e ++ c) : Nat) : Int) := by
      rw [or8 _ _ (byteB_lt (by omega)) hsh, hfr, byteB_or (by unfold roomN at hnf; omega)]
    have e16 : lput (packB bs) ((packB l0).length : Int) ((byteB (e ++ c) : Nat) : Int) = packB (bs ++ c) := by
      rw [k2, k1]; exact lput_end
    simp only [hd, cond_false, e13, hd3, cond_true, e14, e15, e16]
theorem putL : ∀ (k left : Nat) (V : Nat) (bs : List Bool), left ≤ k → V < 18446744073709551616 → left ≤ 64 → bs.length + left ≤ 1000000 → lfp g_record_Write_r2 (wS V left bs) = some (wZ (bs ++ bitsN left V))
  | _, 0, V, bs, _, _, _, _ => lfp_inr (by simp [g_record_Write_r2, wS, wZ, bitsN_zero])
  | 0, left + 1, _, _, h, _, _, _ => by omega
  | k + 1, left + 1, V, bs, h, hV, h64, hb => by
    have hn1 : 1 ≤ cutN bs.length (left + 1) := by unfold cutN roomN; omega
    have hnl : cutN bs.length (left + 1) ≤ left + 1 := Nat.min_le_right _ _
    rw [lfp_inl (putStep V (left + 1) bs hV (by omega) h64 (by omega)), putL k _ V _ (by omega) hV (by omega) (by rw [List.length_append, len_bitsN]; omega)]
    congr 2
    have := bitsN_add (cutN bs.length (left + 1)) (left + 1 - cutN bs.length (left + 1)) V
    rw [show cutN bs.length (left + 1) + (left + 1 - cutN bs.length (left + 1)) = left + 1 by omega, Nat.shiftRight_eq_div_pow] at this
    rw [this, List.append_assoc]
/-- A field that fits is put. -/
theorem put_ok (V w : Nat) (bs : List Bool) (hV : V < 2 ^ w) (h1 : 1 ≤ w) (h64 : w ≤ 64) (hb : bs.length + w ≤ 1000000) :
    once g_record_Write_o1 (((), (V : Int), (w : Int), ()), ((Ctr.mk (bs.length : Int), packB bs, ()), ()), ()) = some ((0, ()), ((Ctr.mk ((bs ++ bitsN w V).length : Int), packB (bs ++ bitsN w V), ()), ()), ()) := by
  have hV2 : V < 18446744073709551616 := Nat.lt_of_lt_of_le hV (by have : 2 ^ w ≤ 2 ^ 64 := Nat.pow_le_pow_right (by omega) h64; simpa using this)
  have hfit : fitW (V : Int) (w : Int) = true := by
    have h3 : (V : Int) < 2 ^ w := by
      have : ((V : Nat) : Int) < ((2 ^ w : Nat) : Int) := by omega
      simpa using this
    unfold fitW
    simp [h3]
    omega
  have hl := putL w w V bs (Nat.le_refl _) hV2 h64 hb
  unfold wS at hl
  unfold once
  simp only [g_record_Write_o1, hfit, Bool.not_true, cond_false, hl, Option.bind_some]
  rfl
end Go.Co.N
end

section
namespace Go.Co.N
open Go Go.Co

/-- The writer that holds these bits. -/
def wst (bs : List Bool) : Ctr × List Int × Unit := (Ctr.mk (bs.length : Int), packB bs, ())
theorem put_int (v : Int) (w : Nat) (bs : List Bool) (h0 : 0 ≤ v) (hV : v < 2 ^ w) (h1 : 1 ≤ w) (h64 : w ≤ 63) (hb : bs.length + w ≤ 1000000) :
    once g_record_Write_o1 (((), IntKind.wrap IntKind.u64 v, (w : Int), ()), (wst bs, ()), ()) = some ((0, ()), (wst (bs ++ bitsN w v.toNat), ()), ()) := by
  obtain ⟨n, rfl⟩ := Int.eq_ofNat_of_zero_le h0
  have h3 : n < 2 ^ w := by
    have : ((n : Nat) : Int) < ((2 ^ w : Nat) : Int) := by simpa using hV
    omega
  have h4 : 2 ^ w ≤ 2 ^ 63 := Nat.pow_le_pow_right (by omega) h64
  rw [u64N n (by omega)]
  exact put_ok n w bs h3 h1 (by omega) hb
def leavesB (l : List Int) : List Bool := l.flatMap fun w => bitsN 8 w.toNat
def joinsB (l : List Seat) : List Bool := l.flatMap fun s => bitsN 8 s.Who.toNat ++ bitsN 6 s.Slot.toNat
theorem take_at {α : Type} [Inhabited α] (l : List α) (i : Nat) (h : i < l.length) : l.take (i + 1) = l.take i ++ [lat l (i : Int)] := by
  rw [lat_nat l i h, List.take_add_one, List.getElem?_eq_getElem h]; rfl
theorem leaves_at (l : List Int) (i : Nat) (h : i < l.length) : leavesB (l.take (i + 1)) = leavesB (l.take i) ++ bitsN 8 (lat l (i : Int)).toNat := by
  unfold leavesB; rw [take_at l i h, List.flatMap_append]; simp
theorem joins_at (l : List Seat) (i : Nat) (h : i < l.length) : joinsB (l.take (i + 1)) = joinsB (l.take i) ++ (bitsN 8 (lat l (i : Int)).Who.toNat ++ bitsN 6 (lat l (i : Int)).Slot.toNat) := by
  unfold joinsB; rw [take_at l i h, List.flatMap_append]; simp
theorem len_leavesB (l : List Int) : (leavesB l).length = 8 * l.length := by
  induction l with
  | nil => rfl
  | cons a l ih => unfold leavesB at *; rw [List.flatMap_cons, List.length_append, ih, len_bitsN, List.length_cons]; omega
theorem len_joinsB (l : List Seat) : (joinsB l).length = 14 * l.length := by
  induction l with
  | nil => rfl
  | cons a l ih => unfold joinsB at *; rw [List.flatMap_cons, List.length_append, ih, List.length_append, len_bitsN, len_bitsN, List.length_cons]; omega
theorem write_leaves (l : List Int) (bs : List Bool) (hl : l.length ≤ 64) (hg : ∀ w ∈ l, 0 ≤ w ∧ w ≤ 255) (hb : bs.length ≤ 10000) :
    lfp g_record_Write_r7 (((), (), (), l, (l.length : Int), 0, ()), (wst bs, (), ()), ()) = some (((), (), (), ()), (wst (bs ++ leavesB l), (), ()), ()) := by
  rw [lfp_run' (fun i => (((), (), (), l, (l.length : Int), (i : Int), ()), (wst (bs ++ leavesB (l.take i)), (), ()), ())) l.length (by simp [leavesB]) (fun j hj => by
    have h1 : decide ((j : Int) < (l.length : Int)) = true := by simp; omega
    have h2 : (decide (0 ≤ (j : Int)) && decide ((j : Int) < (l.length : Int))) = true := by simp; omega
    have hm : lat l (j : Int) ∈ l := by rw [lat_nat l j hj]; exact List.getElem_mem hj
    have hw := hg _ hm
    have hp := put_int (lat l (j : Int)) 8 (bs ++ leavesB (l.take j)) hw.1 (by omega) (by omega) (by omega) (by
      have := len_leavesB (l.take j)
      rw [List.length_append, this, List.length_take]; omega)
    show g_record_Write_r7 (((), (), (), l, (l.length : Int), (j : Int), ()), (((wst (bs ++ leavesB (l.take j))).1, (wst (bs ++ leavesB (l.take j))).2.1, ()), (), ()), ()) = _
    have hp' : once g_record_Write_o1 (((), IntKind.wrap IntKind.u64 (lat l (j : Int)), 8, ()), (((wst (bs ++ leavesB (l.take j))).1, (wst (bs ++ leavesB (l.take j))).2.1, ()), ()), ()) = _ := hp
    simp only [g_record_Write_r7, h1, h2, cond_true, hp', Option.bind_some, wrap1 j (by omega)]
    rw [leaves_at l j hj, List.append_assoc]
    rfl)]
  refine lfp_inr ?_
  simp only [List.take_length]
  show g_record_Write_r7 (((), (), (), l, (l.length : Int), (l.length : Int), ()), (((wst (bs ++ leavesB l)).1, (wst (bs ++ leavesB l)).2.1, ()), (), ()), ()) = _
  simp only [g_record_Write_r7, Int.lt_irrefl, decide_false, cond_false]
theorem write_joins (l : List Seat) (bs : List Bool) (hl : l.length ≤ 64) (hg : ∀ s ∈ l, (0 ≤ s.Who ∧ s.Who ≤ 255) ∧ 0 ≤ s.Slot ∧ s.Slot ≤ 63) (hb : bs.length ≤ 10000) :
    lfp g_record_Write_r12 (((), (), l, (l.length : Int), 0, ()), (wst bs, (), ()), ()) = some (((), ()), (wst (bs ++ joinsB l), (), ()), ()) := by
  rw [lfp_run' (fun i => (((), (), l, (l.length : Int), (i : Int), ()), (wst (bs ++ joinsB (l.take i)), (), ()), ())) l.length (by simp [joinsB]) (fun j hj => by
    have h1 : decide ((j : Int) < (l.length : Int)) = true := by simp; omega
    have h2 : (decide (0 ≤ (j : Int)) && decide ((j : Int) < (l.length : Int))) = true := by simp; omega
    have hm : lat l (j : Int) ∈ l := by rw [lat_nat l j hj]; exact List.getElem_mem hj
    obtain ⟨hw, hs⟩ := hg _ hm
    have hlen : (bs ++ joinsB (l.take j)).length ≤ 11000 := by
      have := len_joinsB (l.take j)
      rw [List.length_append, this, List.length_take]; omega
    have hp := put_int (lat l (j : Int)).Who 8 (bs ++ joinsB (l.take j)) hw.1 (by omega) (by omega) (by omega) (by omega)
    have hq := put_int (lat l (j : Int)).Slot 6 ((bs ++ joinsB (l.take j)) ++ bitsN 8 (lat l (j : Int)).Who.toNat) hs.1 (by omega) (by omega) (by omega) (by rw [List.length_append, len_bitsN]; omega)
    show g_record_Write_r12 (((), (), l, (l.length : Int), (j : Int), ()), (((wst (bs ++ joinsB (l.take j))).1, (wst (bs ++ joinsB (l.take j))).2.1, ()), (), ()), ()) = _
    have hp' : once g_record_Write_o1 (((), IntKind.wrap IntKind.u64 (lat l (j : Int)).Who, 8, ()), (((wst (bs ++ joinsB (l.take j))).1, (wst (bs ++ joinsB (l.take j))).2.1, ()), ()), ()) = _ := hp
    generalize hbs : (bs ++ joinsB (l.take j)) ++ bitsN 8 (lat l (j : Int)).Who.toNat = b2 at *
    have hq' : once g_record_Write_o1 (((), IntKind.wrap IntKind.u64 (lat l (j : Int)).Slot, 6, ()), (((wst b2).1, (wst b2).2.1, ()), ()), ()) = _ := hq
    simp only [g_record_Write_r12, h1, h2, cond_true, hp', Option.bind_some, hq', wrap1 j (by omega)]
    rw [joins_at l j hj, ← List.append_assoc, ← List.append_assoc, hbs]
    rfl)]
  refine lfp_inr ?_
  simp only [List.take_length]
  show g_record_Write_r12 (((), (), l, (l.length : Int), (l.length : Int), ()), (((wst (bs ++ joinsB l)).1, (wst (bs ++ joinsB l)).2.1, ()), (), ()), ()) = _
  simp only [g_record_Write_r12, Int.lt_irrefl, decide_false, cond_false]
structure GoodRec (r : Record) : Prop where
  epoch : 1 ≤ r.Epoch ∧ r.Epoch ≤ 200
  fresh : 22 ≤ r.Fresh ∧ r.Fresh ≤ 32768
  nl : r.Leaves.length ≤ 64
  nj : r.Joins.length ≤ 64
  leaves : ∀ w ∈ r.Leaves, 0 ≤ w ∧ w ≤ 255
  joins : ∀ s ∈ r.Joins, (0 ≤ s.Who ∧ s.Who ≤ 255) ∧ 0 ≤ s.Slot ∧ s.Slot ≤ 63
theorem goodRec_iff {r : Record} : goodRec r = true ↔ GoodRec r := by
  unfold goodRec
  simp only [Bool.and_eq_true, betw_iff, decide_eq_true_eq, List.all_eq_true]
  exact ⟨fun ⟨⟨⟨⟨⟨a, b⟩, c⟩, d⟩, e⟩, f⟩ => ⟨a, b, c, d, e, f⟩, fun ⟨a, b, c, d, e, f⟩ => ⟨⟨⟨⟨⟨a, b⟩, c⟩, d⟩, e⟩, f⟩⟩
theorem recBits_eq (r : Record) : recBits r = ((((bitsN 8 r.Epoch.toNat ++ bitsN 16 r.Fresh.toNat) ++ bitsN 7 r.Leaves.length) ++ leavesB r.Leaves) ++ bitsN 7 r.Joins.length) ++ joinsB r.Joins := by
  unfold recBits leavesB joinsB
  simp only [List.append_assoc]
theorem eq_record_Write : Eqs c_record_Write g_record_Write := Eqs.tot fun (r, _) hf => by
  change Record at r
  show g_record_Write (r, ()) = some ((writeR r).1, (writeR r).2, ())
  unfold writeR
  cases hg : goodRec r with
  | false => simp only [g_record_Write, hg, Bool.not_false, cond_true, cond_false]
  | true =>
    have g := goodRec_iff.1 hg
    have p1 := put_int r.Epoch 8 [] (by have := g.epoch; omega) (by have := g.epoch; omega) (by omega) (by omega) (by simp)
    have p2 := put_int r.Fresh 16 ([] ++ bitsN 8 r.Epoch.toNat) (by have := g.fresh; omega) (by have := g.fresh; omega) (by omega) (by omega) (by simp [len_bitsN])
    have p3 := put_int (r.Leaves.length : Int) 7 (([] ++ bitsN 8 r.Epoch.toNat) ++ bitsN 16 r.Fresh.toNat) (by omega) (by have := g.nl; omega) (by omega) (by omega) (by simp [len_bitsN])
    have p4 := write_leaves r.Leaves ((([] ++ bitsN 8 r.Epoch.toNat) ++ bitsN 16 r.Fresh.toNat) ++ bitsN 7 (r.Leaves.length : Int).toNat) g.nl g.leaves (by simp [len_bitsN])
    have p5 := put_int (r.Joins.length : Int) 7 (((([] ++ bitsN 8 r.Epoch.toNat) ++ bitsN 16 r.Fresh.toNat) ++ bitsN 7 (r.Leaves.length : Int).toNat) ++ leavesB r.Leaves) (by omega) (by have := g.nj; omega) (by omega) (by omega) (by
      simp only [List.length_append, len_bitsN, len_leavesB, List.length_nil]; have := g.nl; omega)
    have p6 := write_joins r.Joins ((((([] ++ bitsN 8 r.Epoch.toNat) ++ bitsN 16 r.Fresh.toNat) ++ bitsN 7 (r.Leaves.length : Int).toNat) ++ leavesB r.Leaves) ++ bitsN 7 (r.Joins.length : Int).toNat) g.nj g.joins (by
      simp only [List.length_append, len_bitsN, len_leavesB, List.length_nil]; have := g.nl; omega)
    have hz : ((St.zero St.counter, [], ()) : Ctr × List Int × Unit) = wst [] := rfl
    simp only [g_record_Write, hg, Bool.not_true, cond_false, cond_true, hz]
    generalize hb1 : ([] : List Bool) ++ bitsN 8 r.Epoch.toNat = b1 at *
    generalize hb2 : b1 ++ bitsN 16 r.Fresh.toNat = b2 at *
    generalize hb3 : b2 ++ bitsN 7 (r.Leaves.length : Int).toNat = b3 at *
    generalize hb4 : b3 ++ leavesB r.Leaves = b4 at *
    generalize hb5 : b4 ++ bitsN 7 (r.Joins.length : Int).toNat = b5 at *
    have q1 : once g_record_Write_o1 (((), IntKind.wrap IntKind.u64 r.Epoch, 8, ()), (wst [], ()), ()) = some ((0, ()), (wst b1, ()), ()) := p1
    have q2 : once g_record_Write_o1 (((), IntKind.wrap IntKind.u64 r.Fresh, 16, ()), (((wst b1).1, (wst b1).2.1, ()), ()), ()) = some ((0, ()), (wst b2, ()), ()) := p2
    have q3 : once g_record_Write_o1 (((), IntKind.wrap IntKind.u64 (r.Leaves.length : Int), 7, ()), (((wst b2).1, (wst b2).2.1, ()), ()), ()) = some ((0, ()), (wst b3, ()), ()) := p3
    have q4 : lfp g_record_Write_r7 (((), (), (), r.Leaves, (r.Leaves.length : Int), 0, ()), (((wst b3).1, (wst b3).2.1, ()), (), ()), ()) = some (((), (), (), ()), (wst b4, (), ()), ()) := p4
    have q5 : once g_record_Write_o1 (((), IntKind.wrap IntKind.u64 (r.Joins.length : Int), 7, ()), (((wst b4).1, (wst b4).2.1, ()), ()), ()) = some ((0, ()), (wst b5, ()), ()) := p5
    have q6 : lfp g_record_Write_r12 (((), (), r.Joins, (r.Joins.length : Int), 0, ()), (((wst b5).1, (wst b5).2.1, ()), (), ()), ()) = some (((), ()), (wst (b5 ++ joinsB r.Joins), (), ()), ()) := p6
    simp only [q1, q2, q3, q4, q5, q6, Option.bind_some]
    have : recBits r = b5 ++ joinsB r.Joins := by
      rw [recBits_eq, ← hb5, ← hb4, ← hb3, ← hb2, ← hb1]
      simp
    rw [this]
    rfl
end Go.Co.N
end

section
namespace Go.Co.N
open Go Go.Co

def rdr (t : ByteArray) (p : Nat) : Rdr := Rdr.mk (Ctr.mk (p : Int)) t
theorem takeStep (t : ByteArray) (p v left : Nat) (hs : t.size ≤ 140737488355328) (h0 : 0 < left) (h64 : left ≤ 64) (hp : p + left ≤ 8 * t.size) (hv : v * 2 ^ left < 18446744073709551616) :
    g_record_Read_r3 (((), (v : Int), (left : Int), ()), (rdr t p, ()), ()) = some (.inl (((), ((v * 2 ^ cutN p left + valB (((bitsT t).drop p).take (cutN p left)) : Nat) : Int), ((left - cutN p left : Nat) : Int), ()), (rdr t (p + cutN p left), ()), ())) := by
  generalize hn : cutN p left = n
  have hnf : n ≤ roomN p := by rw [← hn]; exact Nat.min_le_left _ _
  have hnl : n ≤ left := by rw [← hn]; exact Nat.min_le_right _ _
  have hf8 : roomN p ≤ 8 := by unfold roomN; omega
  have hn1 : 1 ≤ n := by rw [← hn]; unfold cutN roomN; omega
  have e1 : IntKind.i64.wrap (8 - bw BinOp.and IntKind.i64 (p : Int) 7) = ((roomN p : Nat) : Int) := by
    rw [and7 p (by omega), i64_in _ (by omega)]; unfold roomN; omega
  have e2 : min ((roomN p : Nat) : Int) (left : Int) = (n : Int) := by rw [← hn]; unfold cutN; omega
  have e3 : IntKind.i64.wrap ((left : Int) - (n : Int)) = ((left - n : Nat) : Int) := by rw [i64_in _ (by omega)]; omega
  have e6 : IntKind.u64.wrap (n : Int) = (n : Int) := u64N _ (by omega)
  have e7 := mask8 n (by omega)
  have e8 : IntKind.i64.wrap (((roomN p : Nat) : Int) - (n : Int)) = ((roomN p - n : Nat) : Int) := by rw [i64_in _ (by omega)]; omega
  have e9 : IntKind.u64.wrap ((roomN p - n : Nat) : Int) = ((roomN p - n : Nat) : Int) := u64N _ (by omega)
  have e10 : shrI IntKind.i64 (p : Int) 3 = ((p / 8 : Nat) : Int) := shrN .i64 p 3 (by simp [IntKind.bits])
  obtain ⟨hb0, hb1⟩ := bat_lt t ((p / 8 : Nat) : Int)
  have hc := valB_mid t p n (by omega) hnf
  generalize hy : bat t ((p / 8 : Nat) : Int) = y at *
  obtain ⟨y, rfl⟩ := Int.eq_ofNat_of_zero_le hb0
  simp only [Int.toNat_natCast] at hc
  have e11 : shrI IntKind.u8 (y : Int) ((roomN p - n : Nat) : Int) = ((y / 2 ^ (roomN p - n) : Nat) : Int) := shrN _ _ _ (by simp [IntKind.bits]; omega)
  have hy2 : y / 2 ^ (roomN p - n) < 256 := Nat.lt_of_le_of_lt (Nat.div_le_self _ _) (by omega)
  have hpw : 2 ^ n ≤ 256 := by
    have : 2 ^ n ≤ 2 ^ 8 := Nat.pow_le_pow_right (by omega) (by omega)
    simpa using this
  have hp0 : 0 < 2 ^ n := Nat.two_pow_pos n
  have e12 : bw BinOp.and IntKind.u8 ((y / 2 ^ (roomN p - n) : Nat) : Int) ((2 ^ n - 1 : Nat) : Int) = ((valB (((bitsT t).drop p).take n) : Nat) : Int) := by
    rw [and8 _ _ hy2 (by omega), and_mask, hc]; rfl
  have hcl : valB (((bitsT t).drop p).take n) < 2 ^ n := by rw [hc]; exact Nat.mod_lt _ hp0
  generalize valB (((bitsT t).drop p).take n) = c at *
  have e13 : IntKind.u64.wrap (c : Int) = (c : Int) := u64N _ (by omega)
  have hvn : v * 2 ^ n < 18446744073709551616 := Nat.lt_of_le_of_lt (Nat.mul_le_mul_left v (Nat.pow_le_pow_right (by omega) hnl)) hv
  have e14 : shlI IntKind.u64 (v : Int) (n : Int) = ((v * 2 ^ n : Nat) : Int) := shl64 v n hvn (by omega)
  have e15 : bw BinOp.or IntKind.u64 ((v * 2 ^ n : Nat) : Int) (c : Int) = ((v * 2 ^ n + c : Nat) : Int) := by
    rw [or64 _ _ hvn (by omega), Nat.mul_comm v, Nat.two_pow_add_eq_or_of_lt hcl]
  have e16 : IntKind.i64.wrap ((p : Int) + (n : Int)) = ((p + n : Nat) : Int) := by rw [i64_in _ (by omega)]; omega
  have hlt : decide ((0 : Int) < (left : Int)) = true := by simp; omega
  have hbd : (decide (0 ≤ ((p / 8 : Nat) : Int)) && decide (((p / 8 : Nat) : Int) < (t.size : Int))) = true := by simp; omega
  simp only [g_record_Read_r3, rdr, hlt, cond_true, e10, hbd, e1, e2, e3, e6, e7, e8, e9, hy, e11, e12, e13, e14, e15, e16]
theorem takeL : ∀ (k left : Nat) (t : ByteArray) (p v : Nat), left ≤ k → t.size ≤ 140737488355328 → left ≤ 64 → p + left ≤ 8 * t.size → v * 2 ^ left + (2 ^ left - 1) < 18446744073709551616 →
    lfp g_record_Read_r3 (((), (v : Int), (left : Int), ()), (rdr t p, ()), ()) = some ((((v * 2 ^ left + valB (((bitsT t).drop p).take left) : Nat) : Int), ()), (rdr t (p + left), ()), ())
  | _, 0, t, p, v, _, _, _, _, _ => lfp_inr (by simp [g_record_Read_r3, valB])
  | 0, left + 1, _, _, _, h, _, _, _, _ => by omega
  | k + 1, left + 1, t, p, v, h, hs, h64, hp, hv => by
    have hn1 : 1 ≤ cutN p (left + 1) := by unfold cutN roomN; omega
    have hnl : cutN p (left + 1) ≤ left + 1 := Nat.min_le_right _ _
    rw [lfp_inl (takeStep t p v (left + 1) hs (by omega) h64 hp (by omega))]
    generalize cutN p (left + 1) = n at *
    have hl := len_bitsT t
    have hsplit : 2 ^ (left + 1) = 2 ^ n * 2 ^ (left + 1 - n) := by rw [← Nat.pow_add]; congr 1; omega
    have hcl : valB (((bitsT t).drop p).take n) < 2 ^ n := by
      have := valB_lt (((bitsT t).drop p).take n)
      rwa [List.length_take, List.length_drop, show min n ((bitsT t).length - p) = n by omega] at this
    have hfit : (v * 2 ^ n + valB (((bitsT t).drop p).take n)) * 2 ^ (left + 1 - n) + (2 ^ (left + 1 - n) - 1) ≤ v * 2 ^ (left + 1) + (2 ^ (left + 1) - 1) := by
      rw [hsplit, Nat.add_mul, Nat.mul_assoc]
      have h1 : valB (((bitsT t).drop p).take n) + 1 ≤ 2 ^ n := hcl
      have h2 : (valB (((bitsT t).drop p).take n) + 1) * 2 ^ (left + 1 - n) ≤ 2 ^ n * 2 ^ (left + 1 - n) := Nat.mul_le_mul_right _ h1
      rw [Nat.add_mul, Nat.one_mul] at h2
      have h3 : 0 < 2 ^ (left + 1 - n) := Nat.two_pow_pos _
      omega
    rw [takeL k (left + 1 - n) t (p + n) _ (by omega) hs (by omega) (by omega) (by omega)]
    have e : ((bitsT t).drop p).take (left + 1) = ((bitsT t).drop p).take n ++ ((bitsT t).drop (p + n)).take (left + 1 - n) := by
      have := List.take_add (l := (bitsT t).drop p) (i := n) (j := left + 1 - n)
      rw [show n + (left + 1 - n) = left + 1 by omega, List.drop_drop] at this
      exact this
    have hlen : (((bitsT t).drop (p + n)).take (left + 1 - n)).length = left + 1 - n := by rw [List.length_take, List.length_drop]; omega
    rw [e, valB_append, hlen, hsplit, Nat.add_mul, Nat.mul_assoc, show p + n + (left + 1 - n) = p + (left + 1) by omega]
    rw [Nat.add_assoc]
/-- Taking: the number, the place behind it, whether there were too few. -/
theorem take_ok (t : ByteArray) (p w : Nat) (hs : t.size ≤ 140737488355328) (h1 : 1 ≤ w) (h63 : w ≤ 63) (hp : p ≤ 8 * t.size) :
    once g_record_Read_o2 (((), (w : Int), ()), (rdr t p, ()), ()) = some ((((takeB (bitsT t) p w).1 : Int), (bif (takeB (bitsT t) p w).2.2 then 6 else 0), ()), (rdr t (takeB (bitsT t) p w).2.1, ()), ()) := by
  have hl := len_bitsT t
  have d1 : decide ((w : Int) < 1) = false := by simp; omega
  have d2 : decide ((64 : Int) < (w : Int)) = false := by simp; omega
  have e1 : IntKind.i64.wrap (IntKind.i64.wrap (8 * (t.size : Int)) - (p : Int)) = ((8 * t.size - p : Nat) : Int) := by
    rw [i64_in (8 * (t.size : Int)) (by omega), i64_in _ (by omega)]; omega
  have hc : (rdr t p).counter.n = (p : Int) := rfl
  have ht : (rdr t p).text = t := rfl
  unfold once takeB
  simp only [g_record_Read_o2, d1, d2, cond_false, hc, ht, e1]
  by_cases hf : p + w ≤ 8 * t.size
  · have d3 : decide (((8 * t.size - p : Nat) : Int) < (w : Int)) = false := by simp; omega
    have hpow : 2 ^ w ≤ 2 ^ 63 := Nat.pow_le_pow_right (by omega) h63
    have hL := takeL w w t p 0 (Nat.le_refl _) hs (by omega) hf (by omega)
    rw [show ((0 : Nat) : Int) = 0 from rfl] at hL
    simp only [d3, cond_false, hL, Option.bind_some, Nat.zero_mul, Nat.zero_add]
    rw [if_pos (by omega)]
    rfl
  · have d3 : decide (((8 * t.size - p : Nat) : Int) < (w : Int)) = true := by simp; omega
    simp only [d3, cond_true]
    rw [if_neg (by omega)]
    rfl
theorem takeB_place (B : List Bool) (p w : Nat) (h : p ≤ B.length) : (takeB B p w).2.1 ≤ B.length := by
  unfold takeB
  split
  · assumption
  · exact h
theorem takeB_lt (B : List Bool) (p w : Nat) : (takeB B p w).1 < 2 ^ w := by
  unfold takeB
  split
  · have := valB_lt ((B.drop p).take w)
    rw [List.length_take] at this
    exact Nat.lt_of_lt_of_le this (Nat.pow_le_pow_right (by omega) (Nat.min_le_left _ _))
  · exact Nat.two_pow_pos _
/-- The record's reader takes. -/
theorem take1 (t : ByteArray) (s : RdS) (w : Nat) (hs : t.size ≤ 140737488355328) (h1 : 1 ≤ w) (h63 : w ≤ 62) (hp : s.p ≤ 8 * t.size) :
    once g_record_Read_o1 (((w : Int), (), (), ()), (rdr t s.p, (), s.short, ()), ()) = some ((((takeB (bitsT t) s.p w).1 : Int), ()), (rdr t (s.step (bitsT t) w).p, (), (s.step (bitsT t) w).short, ()), ()) := by
  have hl := takeB_lt (bitsT t) s.p w
  have hpow : 2 ^ w ≤ 2 ^ 62 := Nat.pow_le_pow_right (by omega) h63
  have e1 : IntKind.i64.wrap ((takeB (bitsT t) s.p w).1 : Int) = ((takeB (bitsT t) s.p w).1 : Int) := i64N _ (by omega)
  rw [once]
  simp only [g_record_Read_o1, take_ok t s.p w hs h1 (by omega) hp, Option.bind_some, e1, RdS.step]
  cases s.short <;> cases (takeB (bitsT t) s.p w).2.2 <;> rfl
end Go.Co.N
end

section
namespace Go.Co.N
open Go Go.Co

/-! ### Parsed: the bits that were taken are the record's -/
def Taken (B : List Bool) (s : RdS) (bits : List Bool) : Prop := s.short = false → s.p ≤ B.length ∧ B.take s.p = bits
theorem Taken.step {B : List Bool} {s : RdS} {bits : List Bool} (h : Taken B s bits) (w : Nat) : Taken B (s.step B w) (bits ++ bitsN w (takeB B s.p w).1) := by
  intro hs
  simp only [RdS.step, Bool.or_eq_false_iff] at hs
  obtain ⟨h1, h2⟩ := h hs.1
  have h3 := hs.2
  simp only [RdS.step]
  unfold takeB at h3 ⊢
  by_cases hf : s.p + w ≤ B.length
  · rw [if_pos hf]
    refine ⟨hf, ?_⟩
    rw [List.take_add, h2]
    congr 1
    have := bitsN_valB ((B.drop s.p).take w)
    rw [List.length_take, List.length_drop, show min w (B.length - s.p) = w by omega] at this
    exact this.symm
  · rw [if_neg hf] at h3; cases h3
theorem len_rdLeaves (B : List Bool) : ∀ (n : Nat) (s : RdS), (rdLeaves B n s).1.length = n
  | 0, _ => rfl
  | n + 1, s => by simp only [rdLeaves, List.length_cons, len_rdLeaves B n]
theorem len_rdJoins (B : List Bool) : ∀ (n : Nat) (s : RdS), (rdJoins B n s).1.length = n
  | 0, _ => rfl
  | n + 1, s => by simp only [rdJoins, List.length_cons, len_rdJoins B n]
theorem Taken.leaves {B : List Bool} : ∀ (n : Nat) {s : RdS} {bits : List Bool}, Taken B s bits → Taken B (rdLeaves B n s).2 (bits ++ leavesB (rdLeaves B n s).1)
  | 0, s, bits, h => by simpa [rdLeaves, leavesB] using h
  | n + 1, s, bits, h => by
    have := Taken.leaves n (h.step 8)
    simp only [rdLeaves, leavesB, List.flatMap_cons, Int.toNat_natCast]
    rw [List.append_assoc] at this
    exact this
theorem Taken.joins {B : List Bool} : ∀ (n : Nat) {s : RdS} {bits : List Bool}, Taken B s bits → Taken B (rdJoins B n s).2 (bits ++ joinsB (rdJoins B n s).1)
  | 0, s, bits, h => by simpa [rdJoins, joinsB] using h
  | n + 1, s, bits, h => by
    have := Taken.joins n ((h.step 8).step 6)
    simp only [rdJoins, joinsB, List.flatMap_cons, Int.toNat_natCast]
    rw [List.append_assoc, List.append_assoc] at this
    rw [List.append_assoc]
    exact this
theorem parse_taken (B : List Bool) : Taken B (parseR B).2 (recBits (parseR B).1) := by
  have h0 : Taken B ⟨0, false⟩ [] := fun _ => ⟨Nat.zero_le _, rfl⟩
  have h1 := h0.step 8
  have h2 := h1.step 16
  have h3 := h2.step 7
  have h4 := Taken.leaves (takeB B (RdS.step B (RdS.step B ⟨0, false⟩ 8) 16).p 7).1 h3
  have h5 := h4.step 7
  have h6 := Taken.joins (takeB B (rdLeaves B (takeB B (RdS.step B (RdS.step B ⟨0, false⟩ 8) 16).p 7).1 (RdS.step B (RdS.step B (RdS.step B ⟨0, false⟩ 8) 16) 7)).2.p 7).1 h5
  have e : recBits (parseR B).1 = _ := recBits_eq (parseR B).1
  rw [e]
  simp only [parseR, Int.toNat_natCast, len_rdLeaves, len_rdJoins]
  simpa only [List.nil_append, parseR] using h6

/-! ### A record's bits are parsed to it -/
theorem takeB_at {B pre post : List Bool} {w v : Nat} (hB : B = pre ++ (bitsN w v ++ post)) (hv : v < 2 ^ w) : takeB B pre.length w = (v, pre.length + w, false) := by
  unfold takeB
  have hl : B.length = pre.length + (w + post.length) := by rw [hB, List.length_append, List.length_append, len_bitsN]
  rw [if_pos (by omega)]
  have : (B.drop pre.length).take w = bitsN w v := by rw [hB, List.drop_left, List.take_left' (len_bitsN _ _)]
  rw [this, valB_bitsN, Nat.mod_eq_of_lt hv]
theorem step_at {B pre post : List Bool} {w v : Nat} {s : RdS} (hB : B = pre ++ (bitsN w v ++ post)) (hv : v < 2 ^ w) (hs : s = ⟨pre.length, false⟩) : (takeB B s.p w).1 = v ∧ s.step B w = ⟨(pre ++ bitsN w v).length, false⟩ ∧ B = (pre ++ bitsN w v) ++ post := by
  subst hs
  have := takeB_at hB hv
  refine ⟨by rw [this], ?_, by rw [hB, List.append_assoc]⟩
  unfold RdS.step
  rw [this, List.length_append, len_bitsN]
  rfl
theorem leaves_parsed {B : List Bool} : ∀ (l : List Int) (pre post : List Bool) (s : RdS), (∀ w ∈ l, 0 ≤ w ∧ w ≤ 255) → B = pre ++ (leavesB l ++ post) → s = ⟨pre.length, false⟩ →
    rdLeaves B l.length s = (l, ⟨(pre ++ leavesB l).length, false⟩)
  | [], pre, post, s, _, _, hs => by simp [rdLeaves, leavesB, hs]
  | w :: l, pre, post, s, hg, hB, hs => by
    have hw := hg w (List.mem_cons_self ..)
    have hB' : B = pre ++ (bitsN 8 w.toNat ++ (leavesB l ++ post)) := by rw [hB]; simp [leavesB]
    obtain ⟨h1, h2, h3⟩ := step_at hB' (by omega) hs
    have ih := leaves_parsed l (pre ++ bitsN 8 w.toNat) post (s.step B 8) (fun x hx => hg x (List.mem_cons_of_mem _ hx)) h3 h2
    simp only [List.length_cons, rdLeaves, h1, ih]
    have e : ((w.toNat : Nat) : Int) = w := by omega
    rw [e]
    congr 2
    simp [leavesB]
theorem joins_parsed {B : List Bool} : ∀ (l : List Seat) (pre post : List Bool) (s : RdS), (∀ s ∈ l, (0 ≤ s.Who ∧ s.Who ≤ 255) ∧ 0 ≤ s.Slot ∧ s.Slot ≤ 63) → B = pre ++ (joinsB l ++ post) → s = ⟨pre.length, false⟩ →
    rdJoins B l.length s = (l, ⟨(pre ++ joinsB l).length, false⟩)
  | [], pre, post, s, _, _, hs => by simp [rdJoins, joinsB, hs]
  | x :: l, pre, post, s, hg, hB, hs => by
    obtain ⟨hw, hx⟩ := hg x (List.mem_cons_self ..)
    have hB' : B = pre ++ (bitsN 8 x.Who.toNat ++ (bitsN 6 x.Slot.toNat ++ (joinsB l ++ post))) := by rw [hB]; simp [joinsB]
    obtain ⟨h1, h2, h3⟩ := step_at hB' (by omega) hs
    obtain ⟨k1, k2, k3⟩ := step_at h3 (by omega) h2
    have ih := joins_parsed l ((pre ++ bitsN 8 x.Who.toNat) ++ bitsN 6 x.Slot.toNat) post ((s.step B 8).step B 6) (fun x hx => hg x (List.mem_cons_of_mem _ hx)) k3 k2
    simp only [List.length_cons, rdJoins, h1, k1, ih]
    have e : ((x.Who.toNat : Nat) : Int) = x.Who := by omega
    have e2 : ((x.Slot.toNat : Nat) : Int) = x.Slot := by omega
    rw [e, e2]
    congr 2
    simp [joinsB]
theorem parse_good {r : Record} (g : GoodRec r) (tail : List Bool) : parseR (recBits r ++ tail) = (r, ⟨(recBits r).length, false⟩) := by
  generalize hB : recBits r ++ tail = B
  have h0 : B = [] ++ (bitsN 8 r.Epoch.toNat ++ (bitsN 16 r.Fresh.toNat ++ (bitsN 7 r.Leaves.length ++ (leavesB r.Leaves ++ (bitsN 7 r.Joins.length ++ (joinsB r.Joins ++ tail)))))) := by
    rw [← hB, recBits_eq]; simp
  obtain ⟨a1, a2, a3⟩ := step_at h0 (by have := g.epoch; omega) (s := ⟨0, false⟩) rfl
  obtain ⟨b1, b2, b3⟩ := step_at a3 (by have := g.fresh; omega) a2
  obtain ⟨c1, c2, c3⟩ := step_at b3 (by have := g.nl; omega) b2
  have d := leaves_parsed r.Leaves _ _ _ g.leaves c3 c2
  have c4 : B = ((([] ++ bitsN 8 r.Epoch.toNat) ++ bitsN 16 r.Fresh.toNat) ++ bitsN 7 r.Leaves.length ++ leavesB r.Leaves) ++ (bitsN 7 r.Joins.length ++ (joinsB r.Joins ++ tail)) := by rw [c3]; simp
  obtain ⟨e1, e2, e3⟩ := step_at c4 (by have := g.nj; omega) rfl
  have f := joins_parsed r.Joins _ _ _ g.joins e3 e2
  simp only [parseR, a1, b1, c1, d, e1, f]
  have x1 : ((r.Epoch.toNat : Nat) : Int) = r.Epoch := by have := g.epoch; omega
  have x2 : ((r.Fresh.toNat : Nat) : Int) = r.Fresh := by have := g.fresh; omega
  rw [x1, x2, recBits_eq]
  simp only [List.nil_append]
theorem valB_zero {l : List Bool} : valB l = 0 ↔ ∀ b ∈ l, b = false := by
  constructor
  · intro h
    have : l = List.replicate l.length false := valB_inj (by simp) (by rw [h, valB_false])
    rw [this]
    intro b hb
    exact (List.mem_replicate.1 hb).2
  · intro h
    have : l = List.replicate l.length false := List.eq_replicate_iff.2 ⟨rfl, h⟩
    rw [this, valB_false]
/-- The two readers agree: what was not short and ends in noughts is what would be written so. -/
theorem read_iff (t : ByteArray) (hg : goodRec (parseR (bitsT t)).1 = true) :
    ((parseR (bitsT t)).2.short = false ∧ (bitsT t).length - (parseR (bitsT t)).2.p < 8 ∧ valB ((bitsT t).drop (parseR (bitsT t)).2.p) = 0) ↔ packT (recBits (parseR (bitsT t)).1) = t := by
  have g := goodRec_iff.1 hg
  constructor
  · rintro ⟨h1, h2, h3⟩
    obtain ⟨k1, k2⟩ := parse_taken (bitsT t) h1
    refine (packT_rest (r := (bitsT t).drop (parseR (bitsT t)).2.p) ?_).2 ⟨by rw [List.length_drop]; exact h2, valB_zero.1 h3⟩
    rw [← k2, List.take_append_drop]
  · intro h
    have hb := packT_iff.1 h
    have hp := parse_good g (List.replicate (pad8 (recBits (parseR (bitsT t)).1).length) false)
    rw [← hb] at hp
    generalize hr : (parseR (bitsT t)).1 = r at *
    have hs : (parseR (bitsT t)).2 = ⟨(recBits r).length, false⟩ := by rw [hp]
    rw [hs]
    refine ⟨rfl, ?_, ?_⟩
    · rw [hb, List.length_append, List.length_replicate]; unfold pad8; simp only; omega
    · rw [hb]; simp only [List.drop_left]; exact valB_false _
end Go.Co.N
end

section
namespace Go.Co.N
open Go Go.Co

theorem step_place {t : ByteArray} {s : RdS} {w : Nat} (h : s.p ≤ 8 * t.size) : (s.step (bitsT t) w).p ≤ 8 * t.size := by
  have hl := len_bitsT t
  have := takeB_place (bitsT t) s.p w (by omega)
  simp only [RdS.step]; omega
theorem leaves_place {t : ByteArray} : ∀ (n : Nat) {s : RdS}, s.p ≤ 8 * t.size → (rdLeaves (bitsT t) n s).2.p ≤ 8 * t.size
  | 0, _, h => h
  | n + 1, s, h => leaves_place n (step_place h)
theorem joins_place {t : ByteArray} : ∀ (n : Nat) {s : RdS}, s.p ≤ 8 * t.size → (rdJoins (bitsT t) n s).2.p ≤ 8 * t.size
  | 0, _, h => h
  | n + 1, s, h => joins_place n (step_place (step_place h))
theorem read_leaves (t : ByteArray) (hs : t.size ≤ 140737488355328) (n : Nat) (hn : n ≤ 1000) (ep fr : Int) : ∀ (d i : Nat) (s : RdS) (acc : List Int), i + d = n → acc.length = i → s.p ≤ 8 * t.size →
    lfp g_record_Read_r10 (((), (), (), (), (), (n : Int), (i : Int), ()), (rdr t s.p, (), s.short, (ep, fr, acc, (), ()), ()), ()) =
      some (((), (), (), (), (), ()), (rdr t (rdLeaves (bitsT t) d s).2.p, (), (rdLeaves (bitsT t) d s).2.short, (ep, fr, acc ++ (rdLeaves (bitsT t) d s).1, (), ()), ()), ())
  | 0, i, s, acc, hi, _, _ => lfp_inr (by
      have : i = n := by omega
      subst this
      simp only [g_record_Read_r10, Int.lt_irrefl, decide_false, cond_false, rdLeaves, List.append_nil])
  | d + 1, i, s, acc, hi, ha, hp => by
    have h1 : decide ((i : Int) < (n : Int)) = true := by simp; omega
    have h2 : decide ((acc.length + 1) * 8 ≤ 140737488355328) = true := by simp; omega
    have hk := take1 t s 8 hs (by omega) (by omega) hp
    have hk' : once g_record_Read_o1 ((8, (), (), ()), (rdr t s.p, (), s.short, ()), ()) = _ := hk
    have ih := read_leaves t hs n hn ep fr d (i + 1) (s.step (bitsT t) 8) (acc ++ [((takeB (bitsT t) s.p 8).1 : Int)]) (by omega) (by simp [ha]) (step_place hp)
    have e : g_record_Read_r10 (((), (), (), (), (), (n : Int), (i : Int), ()), (rdr t s.p, (), s.short, (ep, fr, acc, (), ()), ()), ()) = some (.inl (((), (), (), (), (), (n : Int), ((i + 1 : Nat) : Int), ()), (rdr t (s.step (bitsT t) 8).p, (), (s.step (bitsT t) 8).short, (ep, fr, acc ++ [((takeB (bitsT t) s.p 8).1 : Int)], (), ()), ()), ())) := by
      simp only [g_record_Read_r10, h1, cond_true, hk', Option.bind_some, h2, wrap1 i (by omega)]
      rfl
    rw [lfp_inl e, ih]
    simp only [rdLeaves, List.append_assoc, List.singleton_append]
theorem read_joins (t : ByteArray) (hs : t.size ≤ 140737488355328) (n : Nat) (hn : n ≤ 1000) (ep fr : Int) : ∀ (d i : Nat) (s : RdS) (acc : List Seat), i + d = n → acc.length = i → s.p ≤ 8 * t.size →
    lfp g_record_Read_r17 (((), (), (), (), (), (n : Int), (i : Int), ()), (rdr t s.p, (), s.short, (ep, fr, (), acc, ()), ()), ()) =
      some (((), (), (), (), ()), (rdr t (rdJoins (bitsT t) d s).2.p, (), (rdJoins (bitsT t) d s).2.short, (ep, fr, (), acc ++ (rdJoins (bitsT t) d s).1, ()), ()), ())
  | 0, i, s, acc, hi, _, _ => lfp_inr (by
      have : i = n := by omega
      subst this
      simp only [g_record_Read_r17, Int.lt_irrefl, decide_false, cond_false, rdJoins, List.append_nil])
  | d + 1, i, s, acc, hi, ha, hp => by
    have h1 : decide ((i : Int) < (n : Int)) = true := by simp; omega
    have h2 : decide ((acc.length + 1) * 16 ≤ 140737488355328) = true := by simp; omega
    have hk := take1 t s 8 hs (by omega) (by omega) hp
    have hk' : once g_record_Read_o1 ((8, (), (), ()), (rdr t s.p, (), s.short, ()), ()) = _ := hk
    have hj := take1 t (s.step (bitsT t) 8) 6 hs (by omega) (by omega) (step_place hp)
    have hj' : once g_record_Read_o1 ((6, (), (), ()), (rdr t (s.step (bitsT t) 8).p, (), (s.step (bitsT t) 8).short, ()), ()) = _ := hj
    have ih := read_joins t hs n hn ep fr d (i + 1) ((s.step (bitsT t) 8).step (bitsT t) 6) (acc ++ [⟨((takeB (bitsT t) s.p 8).1 : Int), ((takeB (bitsT t) (s.step (bitsT t) 8).p 6).1 : Int)⟩]) (by omega) (by simp [ha]) (step_place (step_place hp))
    have e : g_record_Read_r17 (((), (), (), (), (), (n : Int), (i : Int), ()), (rdr t s.p, (), s.short, (ep, fr, (), acc, ()), ()), ()) = some (.inl (((), (), (), (), (), (n : Int), ((i + 1 : Nat) : Int), ()), (rdr t ((s.step (bitsT t) 8).step (bitsT t) 6).p, (), ((s.step (bitsT t) 8).step (bitsT t) 6).short, (ep, fr, (), acc ++ [⟨((takeB (bitsT t) s.p 8).1 : Int), ((takeB (bitsT t) (s.step (bitsT t) 8).p 6).1 : Int)⟩], ()), ()), ())) := by
      simp only [g_record_Read_r17, h1, cond_true, hk', hj', Option.bind_some, h2, wrap1 i (by omega)]
      rfl
    rw [lfp_inl e, ih]
    simp only [rdJoins, List.append_assoc, List.singleton_append]
/-- What is left is noughts. -/
theorem rest_nought (t : ByteArray) (p : Nat) (hs : t.size ≤ 140737488355328) (h0 : p < 8 * t.size) (h8 : 8 * t.size - p < 8) :
    bw BinOp.and IntKind.u8 (bat t (IntKind.i64.wrap ((t.size : Int) - 1))) (IntKind.u8.wrap (shlI IntKind.u8 1 (IntKind.u64.wrap ((8 * t.size - p : Nat) : Int)) - 1)) = ((valB ((bitsT t).drop p) : Nat) : Int) := by
  have hl := len_bitsT t
  have e1 : IntKind.i64.wrap ((t.size : Int) - 1) = ((p / 8 : Nat) : Int) := by rw [i64_in _ (by omega)]; omega
  have e2 : IntKind.u64.wrap ((8 * t.size - p : Nat) : Int) = ((8 * t.size - p : Nat) : Int) := u64N _ (by omega)
  rw [e1, e2, mask8 _ (by omega)]
  obtain ⟨hb0, hb1⟩ := bat_lt t ((p / 8 : Nat) : Int)
  have hm := valB_mid t p (8 * t.size - p) h0 (by omega)
  rw [List.take_of_length_le (by rw [List.length_drop]; omega), show 8 - p % 8 - (8 * t.size - p) = 0 by omega, Nat.pow_zero, Nat.div_one] at hm
  generalize bat t ((p / 8 : Nat) : Int) = y at *
  obtain ⟨y, rfl⟩ := Int.eq_ofNat_of_zero_le hb0
  have hpw : 2 ^ (8 * t.size - p) ≤ 2 ^ 8 := Nat.pow_le_pow_right (by omega) (by omega)
  have hp0 : 0 < 2 ^ (8 * t.size - p) := Nat.two_pow_pos _
  rw [and8 _ _ (by omega) (by omega), and_mask, hm]
  rfl
theorem eq_record_Read : Eqs c_record_Read g_record_Read := fun (t, _) y hf h => by
  change ByteArray at t
  obtain ⟨hs, h⟩ := guardK_some h
  have hs : t.size ≤ 140737488355328 := of_decide_eq_true hs
  have hl := len_bitsT t
  cases h
  show g_record_Read (t, ()) = some ((readR t).1, (readR t).2, ())
  have z0 : (RdS.mk 0 false).p ≤ 8 * t.size := Nat.zero_le _
  have p1 := take1 t ⟨0, false⟩ 8 hs (by omega) (by omega) z0
  have p2 := take1 t ((RdS.mk 0 false).step (bitsT t) 8) 16 hs (by omega) (by omega) (step_place z0)
  have p3 := take1 t (((RdS.mk 0 false).step (bitsT t) 8).step (bitsT t) 16) 7 hs (by omega) (by omega) (step_place (step_place z0))
  generalize hv1 : (takeB (bitsT t) (RdS.mk 0 false).p 8).1 = v1 at *
  generalize hs1 : (RdS.mk 0 false).step (bitsT t) 8 = s1 at *
  generalize hv2 : (takeB (bitsT t) s1.p 16).1 = v2 at *
  generalize hs2 : s1.step (bitsT t) 16 = s2 at *
  have hn3 := takeB_lt (bitsT t) s2.p 7
  generalize hv3 : (takeB (bitsT t) s2.p 7).1 = v3 at *
  have k1 : s1.p ≤ 8 * t.size := by rw [← hs1]; exact step_place z0
  have k2 : s2.p ≤ 8 * t.size := by rw [← hs2]; exact step_place k1
  have k3 : (s2.step (bitsT t) 7).p ≤ 8 * t.size := step_place k2
  generalize hs3 : s2.step (bitsT t) 7 = s3 at *
  have p4 := read_leaves t hs v3 (by omega) (v1 : Int) (v2 : Int) v3 0 s3 [] (by omega) rfl k3
  have k4 := leaves_place v3 k3
  have p5 := take1 t (rdLeaves (bitsT t) v3 s3).2 7 hs (by omega) (by omega) k4
  generalize hs4 : (rdLeaves (bitsT t) v3 s3) = L at *
  have hn5 := takeB_lt (bitsT t) L.2.p 7
  generalize hv5 : (takeB (bitsT t) L.2.p 7).1 = v5 at *
  have k5 : (L.2.step (bitsT t) 7).p ≤ 8 * t.size := step_place k4
  generalize hs5 : L.2.step (bitsT t) 7 = s5 at *
  have p6 := read_joins t hs v5 (by omega) (v1 : Int) (v2 : Int) v5 0 s5 [] (by omega) rfl k5
  have k6 := joins_place v5 k5
  have hparse : parseR (bitsT t) = (⟨(v1 : Int), (v2 : Int), L.1, (rdJoins (bitsT t) v5 s5).1⟩, (rdJoins (bitsT t) v5 s5).2) := by
    have hv1' : (takeB (bitsT t) 0 8).1 = v1 := hv1
    simp only [parseR, hs1, hv1', hs2, hv2, hv3, hs3, hs4, hv5, hs5]
  generalize hs6 : (rdJoins (bitsT t) v5 s5) = J at *
  have hz : Rdr.mk (St.zero St.counter) t = rdr t (RdS.mk 0 false).p := rfl
  have q1 : once g_record_Read_o1 ((8, (), (), ()), (rdr t (RdS.mk 0 false).p, (), false, ()), ()) = some (((v1 : Int), ()), (rdr t s1.p, (), s1.short, ()), ()) := p1
  have q2 : once g_record_Read_o1 ((16, (), (), ()), (rdr t s1.p, (), s1.short, ()), ()) = some (((v2 : Int), ()), (rdr t s2.p, (), s2.short, ()), ()) := p2
  have q3 : once g_record_Read_o1 ((7, (), (), ()), (rdr t s2.p, (), s2.short, ()), ()) = some (((v3 : Int), ()), (rdr t s3.p, (), s3.short, ()), ()) := p3
  have q4 : lfp g_record_Read_r10 (((), (), (), (), (), (v3 : Int), 0, ()), (rdr t s3.p, (), s3.short, ((v1 : Int), (v2 : Int), [], (), ()), ()), ()) = some (((), (), (), (), (), ()), (rdr t L.2.p, (), L.2.short, ((v1 : Int), (v2 : Int), L.1, (), ()), ()), ()) := p4
  have q5 : once g_record_Read_o1 ((7, (), (), ()), (rdr t L.2.p, (), L.2.short, ()), ()) = some (((v5 : Int), ()), (rdr t s5.p, (), s5.short, ()), ()) := p5
  have q6 : lfp g_record_Read_r17 (((), (), (), (), (), (v5 : Int), 0, ()), (rdr t s5.p, (), s5.short, ((v1 : Int), (v2 : Int), (), [], ()), ()), ()) = some (((), (), (), (), ()), (rdr t J.2.p, (), J.2.short, ((v1 : Int), (v2 : Int), (), J.1, ()), ()), ()) := p6
  have hc : (rdr t J.2.p).counter.n = (J.2.p : Int) := rfl
  have ht : (rdr t J.2.p).text = t := rfl
  have e1 : IntKind.i64.wrap (IntKind.i64.wrap (8 * (t.size : Int)) - (J.2.p : Int)) = ((8 * t.size - J.2.p : Nat) : Int) := by
    rw [i64_in (8 * (t.size : Int)) (by omega), i64_in _ (by omega)]; omega
  have hR : (parseR (bitsT t)).1 = ⟨(v1 : Int), (v2 : Int), L.1, J.1⟩ := by rw [hparse]
  have hS : (parseR (bitsT t)).2 = J.2 := by rw [hparse]
  have hri := read_iff t
  rw [hS, hR, hl] at hri
  simp only [g_record_Read, hz, q1, q2, q3, q4, q5, q6, Option.bind_some, hc, ht, e1]
  unfold readR
  rw [hR]
  generalize hrec : Record.mk (v1 : Int) (v2 : Int) L.1 J.1 = r at *
  cases hg : goodRec r with
  | false =>
    cases hsh : J.2.short with
    | true => rfl
    | false =>
      by_cases h8 : 8 ≤ 8 * t.size - J.2.p
      · have d1 : decide ((8 : Int) ≤ ((8 * t.size - J.2.p : Nat) : Int)) = true := by simp; omega
        simp only [d1, cond_true, cond_false, Bool.false_and]
      · have d1 : decide ((8 : Int) ≤ ((8 * t.size - J.2.p : Nat) : Int)) = false := by simp; omega
        by_cases hz0 : 8 * t.size - J.2.p = 0
        · have d2 : decide (((8 * t.size - J.2.p : Nat) : Int) = 0) = true := by rw [hz0]; rfl
          simp only [d1, d2, cond_true, cond_false, Bool.false_and, Bool.not_false]
        · have d2 : decide (((8 * t.size - J.2.p : Nat) : Int) = 0) = false := by simp; omega
          have d3 : (decide (0 ≤ IntKind.i64.wrap ((t.size : Int) - 1)) && decide (IntKind.i64.wrap ((t.size : Int) - 1) < (t.size : Int))) = true := by rw [i64_in _ (by omega)]; simp; omega
          simp only [d1, d2, d3, cond_true, cond_false, Bool.false_and, Bool.not_false, rest_nought t J.2.p hs (by omega) (by omega)]
          cases decide (((valB ((bitsT t).drop J.2.p) : Nat) : Int) = 0) <;> rfl
  | true =>
    have hri := hri hg
    cases hsh : J.2.short with
    | true =>
      have : decide (packT (recBits r) = t) = false := by
        rw [decide_eq_false_iff_not, ← hri, hsh]; simp
      rw [this]; rfl
    | false =>
      rw [hsh] at hri
      by_cases h8 : 8 ≤ 8 * t.size - J.2.p
      · have d1 : decide ((8 : Int) ≤ ((8 * t.size - J.2.p : Nat) : Int)) = true := by simp; omega
        have : decide (packT (recBits r) = t) = false := by
          rw [decide_eq_false_iff_not, ← hri]; omega
        simp only [d1, cond_true, cond_false, this, Bool.and_false]
      · have d1 : decide ((8 : Int) ≤ ((8 * t.size - J.2.p : Nat) : Int)) = false := by simp; omega
        by_cases hz0 : 8 * t.size - J.2.p = 0
        · have d2 : decide (((8 * t.size - J.2.p : Nat) : Int) = 0) = true := by rw [hz0]; rfl
          have hd : (bitsT t).drop J.2.p = [] := List.drop_of_length_le (by omega)
          have : decide (packT (recBits r) = t) = true := by
            rw [decide_eq_true_eq, ← hri, hd]; exact ⟨rfl, by omega, rfl⟩
          simp only [d1, d2, cond_true, cond_false, this, Bool.and_self, Bool.not_true]
        · have d2 : decide (((8 * t.size - J.2.p : Nat) : Int) = 0) = false := by simp; omega
          have d3 : (decide (0 ≤ IntKind.i64.wrap ((t.size : Int) - 1)) && decide (IntKind.i64.wrap ((t.size : Int) - 1) < (t.size : Int))) = true := by rw [i64_in _ (by omega)]; simp; omega
          simp only [d1, d2, d3, cond_true, cond_false, rest_nought t J.2.p hs (by omega) (by omega), Bool.true_and, Bool.not_true]
          by_cases hv : valB ((bitsT t).drop J.2.p) = 0
          · have : decide (packT (recBits r) = t) = true := by
              rw [decide_eq_true_eq, ← hri]; exact ⟨rfl, by omega, hv⟩
            have d4 : decide (((valB ((bitsT t).drop J.2.p) : Nat) : Int) = 0) = true := by rw [hv]; rfl
            simp only [this, d4, Bool.not_true, cond_false, cond_true]
          · have : decide (packT (recBits r) = t) = false := by
              rw [decide_eq_false_iff_not, ← hri]; exact fun h => hv h.2.2
            have d4 : decide (((valB ((bitsT t).drop J.2.p) : Nat) : Int) = 0) = false := by simp; omega
            simp only [this, d4, Bool.not_false, cond_false, cond_true]
end Go.Co.N
end

section
namespace Go.Co.N
open Go Go.Co

theorem eq_record_between : Eqs c_record_between g_record_between := Eqs.tot fun (a, b, c, _) _ => by
  change Int at a b c
  simp only [g_record_between, betw]
  cases decide (b ≤ a) <;> rfl
theorem eq_bits_fits : Eqs c_bits_fits g_bits_fits := Eqs.tot fun (a, b, _) hf => by
  change Int at a b
  have ha := fine_u64.1 hf.1
  simp only [g_bits_fits, fitW]
  by_cases h1 : 1 ≤ b
  · by_cases h2 : b ≤ 64
    · by_cases h3 : b = 64
      · simp [h1, h2, h3]
      · obtain ⟨a, rfl⟩ := Int.eq_ofNat_of_zero_le ha.1
        obtain ⟨b, rfl⟩ := Int.eq_ofNat_of_zero_le (show 0 ≤ b by omega)
        have e1 : IntKind.u64.wrap (b : Int) = (b : Int) := u64N _ (by omega)
        have e2 := shrN .u64 a b (by simp [IntKind.bits]; omega)
        have e3 : decide (((a / 2 ^ b : Nat) : Int) = 0) = decide ((a : Int) < 2 ^ b) := by
          congr 1
          simp only [eq_iff_iff]
          have hp : 0 < 2 ^ b := Nat.two_pow_pos b
          have : ((2 ^ b : Nat) : Int) = (2 : Int) ^ b := by simp
          rw [← this]
          constructor
          · intro h
            have h : a / 2 ^ b = 0 := by omega
            have := (Nat.div_eq_zero_iff_lt hp).1 h
            omega
          · intro h
            have : a / 2 ^ b = 0 := Nat.div_eq_of_lt (by omega)
            omega
        simp only [h1, h2, h3, decide_true, decide_false, cond_true, cond_false, e1, e2, e3, Bool.and_self, Bool.false_or, Bool.true_and, Int.toNat_natCast]
    · simp [h1, h2]
  · simp [h1]
theorem all_of {α : Type} [Inhabited α] {l : List α} {p : α → Bool} : allN l.length (fun i => p (lat l (i : Int))) = l.all p := bool_eq (by
  rw [allN_iff, List.all_eq_true]
  constructor
  · intro h x hx
    obtain ⟨i, hi, rfl⟩ := List.getElem_of_mem hx
    have := h i hi
    rwa [lat_nat l i hi] at this
  · intro h i hi
    rw [lat_nat l i hi]
    exact h _ (List.getElem_mem hi))
theorem eq_record_right : Eqs c_record_right g_record_right := Eqs.tot fun (r, _) _ => by
  change Record at r
  show g_record_right (r, ()) = some (goodRec r, ())
  simp only [g_record_right]
  unfold goodRec
  cases betw r.Epoch 1 200 with
  | false => rfl
  | true =>
    cases betw r.Fresh 22 32768 with
    | false => rfl
    | true =>
      have e : decide (64 < max (r.Leaves.length : Int) (r.Joins.length : Int)) = !(decide (r.Leaves.length ≤ 64) && decide (r.Joins.length ≤ 64)) := by
        rw [Bool.eq_iff_iff]; simp only [decide_eq_true_eq, Bool.not_eq_true', Bool.and_eq_false_iff, decide_eq_false_iff_not]; omega
      rw [e]
      cases h3 : (decide (r.Leaves.length ≤ 64) && decide (r.Joins.length ≤ 64)) with
      | false => simp only [Bool.not_true, Bool.not_false, cond_false, cond_true, Bool.true_and, h3, Bool.false_and]
      | true =>
        simp only [Bool.and_eq_true, decide_eq_true_eq] at h3
        simp only [Bool.not_true, cond_false, Bool.true_and, decide_eq_true h3.1, decide_eq_true h3.2, Bool.and_true]
        rw [lfp_all' (fun i => (((), r.Leaves, (r.Leaves.length : Int), (i : Int), ()), (r, ()), ())) r.Leaves.length (fun i => betw (lat r.Leaves (i : Int)) 0 255) (.inl ((false, ()), (), ())) (.inr (((), ()), (r, ()), ())) (by rfl)
          (fun i hi hb => by
            have h1 : decide ((i : Int) < (r.Leaves.length : Int)) = true := by simp; omega
            simp only [g_record_right_r1, h1, Int.natCast_nonneg, decide_true, Bool.and_self, cond_true, hb, Bool.not_true, cond_false, wrap1 i (by omega)])
          (fun i hi hb => by
            have h1 : decide ((i : Int) < (r.Leaves.length : Int)) = true := by simp; omega
            simp only [g_record_right_r1, h1, Int.natCast_nonneg, decide_true, Bool.and_self, cond_true, hb, Bool.not_false])
          (by simp [g_record_right_r1]), all_of (p := fun w => betw w 0 255)]
        simp only [Option.bind_some]
        cases r.Leaves.all (fun w => betw w 0 255) with
        | false => rfl
        | true =>
          simp only [cond_true, Sum.elim_inr, Bool.true_and]
          rw [lfp_all' (fun i => ((r.Joins, (r.Joins.length : Int), (i : Int), ()), (), ())) r.Joins.length (fun i => betw (lat r.Joins (i : Int)).Who 0 255 && betw (lat r.Joins (i : Int)).Slot 0 63) (.inl ((false, ()), (), ())) (.inr ((), (), ())) (by rfl)
            (fun i hi hb => by
              simp only [Bool.and_eq_true] at hb
              have h1 : decide ((i : Int) < (r.Joins.length : Int)) = true := by simp; omega
              simp only [g_record_right_r2, h1, Int.natCast_nonneg, decide_true, Bool.and_self, cond_true, hb.1, hb.2, Bool.not_true, cond_false, wrap1 i (by omega)])
            (fun i hi hb => by
              have h1 : decide ((i : Int) < (r.Joins.length : Int)) = true := by simp; omega
              simp only [g_record_right_r2, h1, Int.natCast_nonneg, decide_true, Bool.and_self, cond_true]
              cases hw : betw (lat r.Joins (i : Int)).Who 0 255 with
              | false => rfl
              | true => rw [hw, Bool.true_and] at hb; rw [hb]; rfl)
            (by simp [g_record_right_r2]), all_of (p := fun s : Seat => betw s.Who 0 255 && betw s.Slot 0 63)]
          simp only [Option.bind_some]
          cases r.Joins.all (fun s => betw s.Who 0 255 && betw s.Slot 0 63) <;> rfl
theorem lt_not (a b : Int) : decide (a < b) = !decide (b ≤ a) := by
  rw [Bool.eq_iff_iff]; simp
theorem betw2 (a lo hi : Int) (x y : Option (Bool × Unit)) : (bif decide (a < lo) then x else bif decide (hi < a) then x else y) = bif betw a lo hi then y else x := by
  rw [lt_not, lt_not]
  unfold betw
  cases decide (lo ≤ a) <;> cases decide (a ≤ hi) <;> rfl
theorem eq_ref13_Right : Eqs c_ref13_Right g_ref13_Right := Eqs.tot fun (r, _) _ => by
  change Record at r
  show g_ref13_Right (r, ()) = some (goodRec r, ())
  simp only [g_ref13_Right, betw2]
  unfold goodRec
  cases betw r.Epoch 1 200 with
  | false => rfl
  | true =>
    cases betw r.Fresh 22 32768 with
    | false => rfl
    | true =>
      have e1 : decide (64 < (r.Leaves.length : Int)) = !(decide (r.Leaves.length ≤ 64)) := by
        rw [Bool.eq_iff_iff]; simp only [decide_eq_true_eq, Bool.not_eq_true', decide_eq_false_iff_not]; omega
      have e2 : decide (64 < (r.Joins.length : Int)) = !(decide (r.Joins.length ≤ 64)) := by
        rw [Bool.eq_iff_iff]; simp only [decide_eq_true_eq, Bool.not_eq_true', decide_eq_false_iff_not]; omega
      rw [e1, e2]
      cases h3 : decide (r.Leaves.length ≤ 64) with
      | false => rfl
      | true =>
        cases h4 : decide (r.Joins.length ≤ 64) with
        | false => rfl
        | true =>
        have h3 := of_decide_eq_true h3
        have h4 := of_decide_eq_true h4
        simp only [Bool.not_true, cond_false, cond_true, Bool.true_and, Bool.and_true]
        rw [lfp_all' (fun i => (((), r.Leaves, (r.Leaves.length : Int), (i : Int), ()), (r, ()), ())) r.Leaves.length (fun i => betw (lat r.Leaves (i : Int)) 0 255) (.inl ((false, ()), (), ())) (.inr (((), ()), (r, ()), ())) (by rfl)
          (fun i hi hb => by
            have h1 : decide ((i : Int) < (r.Leaves.length : Int)) = true := by simp; omega
            have hb := betw_iff.1 hb
            have d1 : decide (lat r.Leaves (i : Int) < 0) = false := by simp; omega
            have d2 : decide (256 ≤ lat r.Leaves (i : Int)) = false := by simp; omega
            simp only [g_ref13_Right_r1, h1, Int.natCast_nonneg, decide_true, Bool.and_self, cond_true, d1, d2, cond_false, wrap1 i (by omega)])
          (fun i hi hb => by
            have h1 : decide ((i : Int) < (r.Leaves.length : Int)) = true := by simp; omega
            simp only [g_ref13_Right_r1, h1, Int.natCast_nonneg, decide_true, Bool.and_self, cond_true]
            cases d1 : decide (lat r.Leaves (i : Int) < 0) with
            | true => rfl
            | false =>
              cases d2 : decide (256 ≤ lat r.Leaves (i : Int)) with
              | true => rfl
              | false =>
                have d1 := of_decide_eq_false d1
                have d2 := of_decide_eq_false d2
                have : betw (lat r.Leaves (i : Int)) 0 255 = true := betw_iff.2 (by omega)
                rw [this] at hb; cases hb)
          (by simp [g_ref13_Right_r1]), all_of (p := fun w => betw w 0 255)]
        simp only [Option.bind_some]
        cases r.Leaves.all (fun w => betw w 0 255) with
        | false => rfl
        | true =>
          simp only [cond_true, Sum.elim_inr, Bool.true_and]
          rw [lfp_all' (fun i => ((r.Joins, (r.Joins.length : Int), (i : Int), ()), (), ())) r.Joins.length (fun i => betw (lat r.Joins (i : Int)).Who 0 255 && betw (lat r.Joins (i : Int)).Slot 0 63) (.inl ((false, ()), (), ())) (.inr ((), (), ())) (by rfl)
            (fun i hi hb => by
              simp only [Bool.and_eq_true, betw_iff] at hb
              have h1 : decide ((i : Int) < (r.Joins.length : Int)) = true := by simp; omega
              have d1 : decide ((lat r.Joins (i : Int)).Who < 0) = false := by simp; omega
              have d2 : decide (256 ≤ (lat r.Joins (i : Int)).Who) = false := by simp; omega
              have d3 : decide ((lat r.Joins (i : Int)).Slot < 0) = false := by simp; omega
              have d4 : decide (64 ≤ (lat r.Joins (i : Int)).Slot) = false := by simp; omega
              simp only [g_ref13_Right_r2, h1, Int.natCast_nonneg, decide_true, Bool.and_self, cond_true, d1, d2, d3, d4, cond_false, wrap1 i (by omega)])
            (fun i hi hb => by
              have h1 : decide ((i : Int) < (r.Joins.length : Int)) = true := by simp; omega
              simp only [g_ref13_Right_r2, h1, Int.natCast_nonneg, decide_true, Bool.and_self, cond_true]
              cases d1 : decide ((lat r.Joins (i : Int)).Who < 0) with
              | true => rfl
              | false =>
                cases d2 : decide (256 ≤ (lat r.Joins (i : Int)).Who) with
                | true => rfl
                | false =>
                  cases d3 : decide ((lat r.Joins (i : Int)).Slot < 0) with
                  | true => rfl
                  | false =>
                    cases d4 : decide (64 ≤ (lat r.Joins (i : Int)).Slot) with
                    | true => rfl
                    | false =>
                      have d1 := of_decide_eq_false d1
                      have d2 := of_decide_eq_false d2
                      have d3 := of_decide_eq_false d3
                      have d4 := of_decide_eq_false d4
                      rw [betw_iff.2 (by omega), betw_iff.2 (by omega)] at hb; cases hb)
            (by simp [g_ref13_Right_r2]), all_of (p := fun s : Seat => betw s.Who 0 255 && betw s.Slot 0 63)]
          simp only [Option.bind_some]
          cases r.Joins.all (fun s => betw s.Who 0 255 && betw s.Slot 0 63) <;> rfl
theorem eq_ref13_field : Eqs c_ref13_field g_ref13_field := Eqs.tot fun (_, _, _) _ => rfl
end Go.Co.N
end

section
namespace Go.Co.N
open Go Go.Co

theorem fine_field {f : Fld} (h : Fine (.st .field) f) : (0 ≤ f.Value ∧ f.Value ≤ 18446744073709551615) ∧ I64 f.Width := by
  rw [Fine.st] at h
  have h : Fine (.prod (.int .u64) (.prod .i .unit)) (f.Value, f.Width, ()) := h
  rw [Fine.prod, Fine.prod] at h
  exact ⟨fine_u64.1 h.1, fine_i.1 h.2.1⟩
theorem tdiv2 (n : Nat) : Int.tdiv (n : Int) 2 = ((n / 2 : Nat) : Int) := by
  rw [show (2 : Int) = ((2 : Nat) : Int) from rfl, ← Int.ofNat_tdiv]
theorem tmod2 (n : Nat) : Int.tmod (n : Int) 2 = ((n % 2 : Nat) : Int) := by
  rw [show (2 : Int) = ((2 : Nat) : Int) from rfl, ← Int.ofNat_tmod]
theorem half_pow (V i : Nat) : V / 2 ^ i / 2 = V / 2 ^ (i + 1) := by rw [Nat.div_div_eq_div_mul, Nat.pow_succ]
theorem eq_ref03_Right : Eqs c_ref03_Right g_ref03_Right := Eqs.tot fun (f, _) hf => by
  change Fld at f
  show g_ref03_Right (f, ()) = some (fitW f.Value f.Width, ())
  obtain ⟨hv, _⟩ := fine_field hf.1
  simp only [g_ref03_Right]
  unfold fitW
  by_cases h1 : f.Width < 1
  · have d : decide (1 ≤ f.Width) = false := by simp; omega
    simp only [decide_eq_true h1, d, cond_true, Bool.false_and]
  · by_cases h2 : 64 < f.Width
    · have d : decide (f.Width ≤ 64) = false := by simp; omega
      simp only [decide_eq_false h1, decide_eq_true h2, d, cond_true, cond_false, Bool.and_false, Bool.false_and]
    · have d1 : decide (1 ≤ f.Width) = true := by simp; omega
      have d2 : decide (f.Width ≤ 64) = true := by simp; omega
      obtain ⟨V, hV⟩ := Int.eq_ofNat_of_zero_le hv.1
      obtain ⟨w, hw⟩ := Int.eq_ofNat_of_zero_le (show 0 ≤ f.Width by omega)
      simp only [decide_eq_false h1, decide_eq_false h2, d1, d2, cond_false, Bool.true_and]
      rw [lfp_run' (fun i => (((), ((V / 2 ^ i : Nat) : Int), (i : Int), ()), (f, ()), ())) w (by rw [hV]; simp) (fun j hj => by
        have h3 : decide ((j : Int) < f.Width) = true := by simp; omega
        have hle : V / 2 ^ j ≤ V := Nat.div_le_self _ _
        simp only [g_ref03_Right_r1, h3, cond_true, tdiv2, wrap1 j (by omega), half_pow]
        rw [u64N _ (by have : V / 2 ^ (j + 1) ≤ V := Nat.div_le_self _ _; omega)])]
      rw [lfp_inr (z := ((((V / 2 ^ w : Nat) : Int), ()), (), ())) (by
        have h3 : decide ((w : Int) < f.Width) = false := by simp; omega
        simp only [g_ref03_Right_r1, h3, cond_false])]
      simp only [Option.bind_some]
      have hp : 0 < 2 ^ w := Nat.two_pow_pos w
      have e1 : ((2 ^ w : Nat) : Int) = (2 : Int) ^ w := by simp
      have : decide (((V / 2 ^ w : Nat) : Int) = 0) = (decide (f.Width = 64) || decide (f.Value < 2 ^ f.Width.toNat)) := by
        rw [hV, hw, Int.toNat_natCast, ← e1, Bool.eq_iff_iff]
        simp only [Bool.or_eq_true, decide_eq_true_eq]
        constructor
        · intro h
          have h : V / 2 ^ w = 0 := by omega
          have := (Nat.div_eq_zero_iff_lt hp).1 h
          right; omega
        · rintro (h | h)
          · have : w = 64 := by omega
            subst this
            have : V / 2 ^ 64 = 0 := Nat.div_eq_of_lt (by omega)
            omega
          · have : V / 2 ^ w = 0 := Nat.div_eq_of_lt (by omega)
            omega
      rw [this]

/-! ### Bytes of bits -/
theorem bit_val {x : Int} (h : x = 0 ∨ x = 1) : x = ((isOne x).toNat : Int) := by rcases h with rfl | rfl <;> rfl
/-- The bits from a place on, noughts behind them. -/
def padTo (bs : List Bool) (c : Nat) : List Bool := bs.drop c ++ List.replicate 8 false
theorem pad_valB (bs : List Bool) (c : Nat) : valB ((padTo bs c).take 8) = byteB ((bs.drop c).take 8) := by
  have hl : ((bs.drop c).take 8).length ≤ 8 := by rw [List.length_take]; omega
  rw [byteB_valB hl]
  congr 1
  unfold padTo
  rw [List.take_append, List.take_replicate, List.length_take]
  congr 2
  omega
theorem take_snoc (l : List Bool) (e : Nat) (h : e < l.length) : valB (l.take (e + 1)) = 2 * valB (l.take e) + (l.getD e false).toNat := by
  rw [List.take_add_one, List.getElem?_eq_getElem h]
  simp only [Option.toList_some, valB_append1]
  simp [List.getD, h]
theorem bytes_inner (l : List Int) (hb : ∀ x ∈ l, x = 0 ∨ x = 1) (out : List Int) (c : Nat) (hc : c < l.length) (hl : l.length ≤ 140737488355328) :
    lfp g_ref03_Bytes_r2 ((l, out, (c : Int), 0, 0, ()), (), ()) = some ((l, out, (c : Int), ((byteB (((onesOf l).drop c).take 8) : Nat) : Int), ()), (), ()) := by
  have hlo : (onesOf l).length = l.length := by simp [onesOf]
  have hpl : 8 ≤ (padTo (onesOf l) c).length := by unfold padTo; rw [List.length_append, List.length_replicate]; omega
  rw [lfp_run' (fun e => ((l, out, (c : Int), ((valB ((padTo (onesOf l) c).take e) : Nat) : Int), (e : Int), ()), (), ())) 8 (by simp [valB]) (fun e he => by
    have hv : valB ((padTo (onesOf l) c).take e) < 2 ^ e := by
      have := valB_lt ((padTo (onesOf l) c).take e)
      rwa [List.length_take, show min e (padTo (onesOf l) c).length = e by omega] at this
    have hpw : 2 ^ e ≤ 2 ^ 7 := Nat.pow_le_pow_right (by omega) (by omega)
    have hs := take_snoc (padTo (onesOf l) c) e (by omega)
    have h1 : decide ((e : Int) < 8) = true := by simp; omega
    have e1 : IntKind.i64.wrap ((l.length : Int) - (c : Int)) = ((l.length - c : Nat) : Int) := by rw [i64_in _ (by omega)]; omega
    have e2 : IntKind.u8.wrap (((valB ((padTo (onesOf l) c).take e) : Nat) : Int) * 2) = ((2 * valB ((padTo (onesOf l) c).take e) : Nat) : Int) := by
      rw [show (((valB ((padTo (onesOf l) c).take e) : Nat) : Int) * 2) = ((2 * valB ((padTo (onesOf l) c).take e) : Nat) : Int) by omega, u8N, Nat.mod_eq_of_lt (by omega)]
    simp only [g_ref03_Bytes_r2, h1, cond_true, e1, e2, wrap1 e (by omega)]
    by_cases hin : c + e < l.length
    · have h2 : decide ((e : Int) < ((l.length - c : Nat) : Int)) = true := by simp; omega
      have e3 : IntKind.i64.wrap ((c : Int) + (e : Int)) = ((c + e : Nat) : Int) := by rw [i64_in _ (by omega)]; omega
      have h3 : (decide (0 ≤ ((c + e : Nat) : Int)) && decide (((c + e : Nat) : Int) < (l.length : Int))) = true := by simp; omega
      have hm : lat l ((c + e : Nat) : Int) = l[c + e] := lat_nat l _ hin
      have hx := bit_val (hb l[c + e] (List.getElem_mem hin))
      have hbit : (padTo (onesOf l) c).getD e false = isOne l[c + e] := by
        have h0 : (padTo (onesOf l) c)[e]? = some (isOne l[c + e]) := by
          unfold padTo
          rw [List.getElem?_append_left (by rw [List.length_drop]; omega), List.getElem?_drop, onesOf, List.getElem?_map, List.getElem?_eq_getElem hin]
          rfl
        rw [List.getD_eq_getElem?_getD, h0]; rfl
      have hbn : (isOne l[c + e]).toNat ≤ 1 := by cases isOne l[c + e] <;> simp
      rw [hbit] at hs
      simp only [h2, cond_true, e3, h3, hm]
      rw [hx, hs]
      rw [show ((2 * valB ((padTo (onesOf l) c).take e) : Nat) : Int) + ((isOne l[c + e]).toNat : Int) = ((2 * valB ((padTo (onesOf l) c).take e) + (isOne l[c + e]).toNat : Nat) : Int) by omega, u8N, Nat.mod_eq_of_lt (by omega)]
    · have h2 : decide ((e : Int) < ((l.length - c : Nat) : Int)) = false := by simp; omega
      have hbit : (padTo (onesOf l) c).getD e false = false := by
        have h0 : (padTo (onesOf l) c)[e]? = some false := by
          unfold padTo
          rw [List.getElem?_append_right (by rw [List.length_drop]; omega), List.getElem?_replicate, if_pos (by omega)]
        rw [List.getD_eq_getElem?_getD, h0]; rfl
      rw [hbit] at hs
      simp only [h2, cond_false]
      rw [hs]
      rfl)]
  refine lfp_inr ?_
  simp only [g_ref03_Bytes_r2, pad_valB]
  rfl
theorem eq_ref03_Bytes : Eqs c_ref03_Bytes g_ref03_Bytes := fun (l, _) y hf h => by
  change List Int at l
  obtain ⟨hb, h⟩ := guardK_some h
  cases h
  show g_ref03_Bytes (l, ()) = some (packT (onesOf l), ())
  have hb : ∀ x ∈ l, x = 0 ∨ x = 1 := fun x hx => by
    have := List.all_eq_true.1 (show l.all _ = true from hb) x hx
    simpa using this
  have hl : l.length ≤ 140737488355328 := by
    have := (Fine.list.1 hf.1).1
    simp only [Ty.bytes, top, show IntKind.bytes IntKind.u8 = 1 from rfl] at this
    omega
  have hlo : (onesOf l).length = l.length := by simp [onesOf]
  simp only [g_ref03_Bytes]
  rw [lfp_run' (fun i => ((l, (List.range i).map (fun i => (byteB (((onesOf l).drop (8 * i)).take 8) : Int)), ((8 * i : Nat) : Int), ()), (), ())) ((l.length + 7) / 8) (by simp) (fun i hi => by
    have h1 : decide (((8 * i : Nat) : Int) < (l.length : Int)) = true := by simp; omega
    have h2 : decide ((((List.range i).map (fun i => (byteB (((onesOf l).drop (8 * i)).take 8) : Int))).length + 1) * 1 ≤ 140737488355328) = true := by simp; omega
    have e1 : IntKind.i64.wrap (((8 * i : Nat) : Int) + 8) = ((8 * (i + 1) : Nat) : Int) := by rw [i64_in _ (by omega)]; omega
    simp only [g_ref03_Bytes_r1, h1, cond_true, bytes_inner l hb _ (8 * i) (by omega) hl, Option.bind_some, h2, e1]
    rw [List.range_succ, List.map_append]
    rfl)]
  rw [lfp_inr (z := (((List.range ((l.length + 7) / 8)).map (fun i => (byteB (((onesOf l).drop (8 * i)).take 8) : Int)), ()), (), ())) (by
    have h1 : decide (((8 * ((l.length + 7) / 8) : Nat) : Int) < (l.length : Int)) = false := by simp; omega
    simp only [g_ref03_Bytes_r1, h1, cond_false])]
  simp only [Option.bind_some]
  unfold packT packB
  rw [hlo]

/-! ### Bits of bytes -/
theorem take_bits (t : ByteArray) (i : Nat) (h : i < t.size) : (bitsT t).take (8 * (i + 1)) = (bitsT t).take (8 * i) ++ bitsN 8 (bat t (i : Int)).toNat := by
  rw [show 8 * (i + 1) = 8 * i + 8 by omega, List.take_add, bitsT_at t i h, List.take_left' (len_bitsN _ _)]
def arr8 (x j : Nat) : Arr 8 Int := Arr.make fun k => if 8 - j ≤ k then ((x / 2 ^ (7 - k) % 2 : Nat) : Int) else 0
theorem eight_list (x : Nat) : Vector.toList (arr8 x 8) = ones (bitsN 8 x) := by
  apply List.ext_getElem?
  intro i
  unfold ones
  rw [List.getElem?_map, get_bitsN]
  by_cases h : i < 8
  · rw [if_pos h]
    have : (Vector.toList (arr8 x 8))[i]? = some (((x / 2 ^ (7 - i) % 2 : Nat) : Int)) := by
      unfold arr8 Arr.make
      simp [h]
    rw [this]
    simp only [Option.map_some, Option.some.injEq]
    rw [show 8 - 1 - i = 7 - i by omega, Nat.testBit_eq_decide_div_mod_eq]
    have : x / 2 ^ (7 - i) % 2 < 2 := Nat.mod_lt _ (by omega)
    by_cases h1 : x / 2 ^ (7 - i) % 2 = 1
    · rw [decide_eq_true h1, h1]; rfl
    · rw [decide_eq_false h1]; simp only [cond_false]; omega
  · rw [if_neg h]
    have : (Vector.toList (arr8 x 8))[i]? = none := by
      apply List.getElem?_eq_none
      simp; omega
    rw [this]; rfl
theorem bits_inner (t : ByteArray) (out : List Int) (c : Int) (x : Nat) (hx : x < 256) :
    lfp g_ref03_Bits_r2 ((t, out, c, (x : Int), (), 7, ()), (Vector.replicate 8 0, ()), ()) = some ((t, out, c, (), ()), (arr8 x 8, ()), ()) := by
  rw [lfp_run' (fun j => ((t, out, c, ((x / 2 ^ j : Nat) : Int), (), (7 : Int) - (j : Int), ()), (arr8 x j, ()), ())) 8 (by
    have : arr8 x 0 = Vector.replicate 8 0 := arr_ext fun i h0 h1 => by
      unfold arr8
      rw [get_make _ _ h0 h1, if_neg (by omega), get_rep _ _ h0 h1]
    simp [this]) (fun j hj => by
    have h1 : decide (0 ≤ (7 : Int) - (j : Int)) = true := by simp; omega
    have h2 : decide ((7 : Int) - (j : Int) < 8) = true := by simp; omega
    have e1 : IntKind.i64.wrap ((7 : Int) - (j : Int) - 1) = 7 - ((j + 1 : Nat) : Int) := by rw [i64_in _ (by omega)]; omega
    have hle : x / 2 ^ (j + 1) ≤ x := Nat.div_le_self _ _
    have e2 : IntKind.u8.wrap ((x / 2 ^ (j + 1) : Nat) : Int) = ((x / 2 ^ (j + 1) : Nat) : Int) := by rw [u8N, Nat.mod_eq_of_lt (by omega)]
    have e3 : Arr.put (arr8 x j) ((7 : Int) - (j : Int)) ((x / 2 ^ j % 2 : Nat) : Int) = arr8 x (j + 1) := arr_ext fun i h0 h1 => by
      rw [get_put _ _ _ _ (by omega) (by omega) h0]
      unfold arr8
      rw [get_make _ _ h0 h1, get_make _ _ h0 h1]
      by_cases he : (7 : Int) - (j : Int) = i
      · rw [if_pos he, if_pos (by omega), show 7 - i.toNat = j by omega]
      · rw [if_neg he]
        by_cases hk : 8 - j ≤ i.toNat
        · rw [if_pos hk, if_pos (by omega)]
        · rw [if_neg hk, if_neg (by omega)]
    simp only [g_ref03_Bits_r2, h1, h2, Bool.and_self, cond_true, tdiv2, tmod2, half_pow, e1, e2, e3])]
  refine lfp_inr ?_
  simp [g_ref03_Bits_r2]
theorem ones_append (a b : List Bool) : ones (a ++ b) = ones a ++ ones b := by simp [ones]
theorem len_ones (a : List Bool) : (ones a).length = a.length := by simp [ones]
theorem eq_ref03_Bits : Eqs c_ref03_Bits g_ref03_Bits := fun (t, _) y hf h => by
  change ByteArray at t
  obtain ⟨hs, h⟩ := guardK_some h
  have hs : t.size ≤ 1000000000000 := of_decide_eq_true hs
  have hl := len_bitsT t
  cases h
  show g_ref03_Bits (t, ()) = some (ones (bitsT t), ())
  simp only [g_ref03_Bits]
  rw [lfp_run' (fun i => ((t, ones ((bitsT t).take (8 * i)), (i : Int), ()), (), ())) t.size (by simp [ones]) (fun i hi => by
    have h1 : decide ((i : Int) < (t.size : Int)) = true := by simp; omega
    have e1 : IntKind.i64.wrap ((i : Int) + 1) = ((i + 1 : Nat) : Int) := by rw [i64_in _ (by omega)]; omega
    obtain ⟨hb0, hb1⟩ := bat_lt t (i : Int)
    have hx := bits_inner t (ones ((bitsT t).take (8 * i))) (i : Int) (bat t (i : Int)).toNat (by omega)
    rw [show (((bat t (i : Int)).toNat : Nat) : Int) = bat t (i : Int) by omega] at hx
    have h2 : decide (((ones ((bitsT t).take (8 * i))).length + (Vector.toList (arr8 (bat t (i : Int)).toNat 8)).length) * 1 ≤ 140737488355328) = true := by
      rw [len_ones, List.length_take, eight_list, len_ones, len_bitsN]; simp; omega
    simp only [g_ref03_Bits_r1, h1, Int.natCast_nonneg, decide_true, Bool.and_self, cond_true, hx, Option.bind_some, h2, e1]
    rw [take_bits t i hi, ones_append, eight_list]
    rfl)]
  rw [lfp_inr (z := ((ones (bitsT t), ()), (), ())) (by
    have : (bitsT t).take (8 * t.size) = bitsT t := List.take_of_length_le (by omega)
    simp only [g_ref03_Bits_r1, Int.lt_irrefl, decide_false, cond_false, this])]
  rfl
end Go.Co.N
end

section
namespace Go.Co.N
open Go Go.Co

/-! ### Packed fields -/
theorem fitW_iff {v w : Int} : fitW v w = true ↔ 1 ≤ w ∧ w ≤ 64 ∧ (w = 64 ∨ v < 2 ^ w.toNat) := by
  unfold fitW
  simp [Bool.and_eq_true, Bool.or_eq_true, and_assoc]
theorem halvesP (V b : Nat) (hV : V < 18446744073709551616) (hb : b ≤ 1000) : lfp g_ref03_Pack_r4 (((), (), (b : Int), (V : Int), 0, ()), (), ()) = some (((), (), (b : Int), ((V / 2 ^ b : Nat) : Int), ()), (), ()) := by
  rw [lfp_run' (fun i => (((), (), (b : Int), ((V / 2 ^ i : Nat) : Int), (i : Int), ()), (), ())) b (by simp) (fun j hj => by
    have h3 : decide ((j : Int) < (b : Int)) = true := by simp; omega
    have hle : V / 2 ^ (j + 1) ≤ V := Nat.div_le_self _ _
    simp only [g_ref03_Pack_r4, h3, cond_true, tdiv2, wrap1 j (by omega), half_pow]
    rw [u64N _ (by omega)])]
  exact lfp_inr (by simp only [g_ref03_Pack_r4, Int.lt_irrefl, decide_false, cond_false])
theorem bit_int (V b : Nat) : IntKind.u8.wrap (Int.tmod ((V / 2 ^ b : Nat) : Int) 2) = bif V.testBit b then 1 else 0 := by
  rw [tmod2, u8N, Nat.testBit_eq_decide_div_mod_eq]
  have : V / 2 ^ b % 2 < 2 := Nat.mod_lt _ (by omega)
  rw [Nat.mod_eq_of_lt (by omega)]
  by_cases h1 : V / 2 ^ b % 2 = 1
  · rw [decide_eq_true h1, h1]; rfl
  · rw [decide_eq_false h1]; simp only [cond_false]; omega
theorem add_ok (f : Fld) (V w : Nat) (hV : f.Value = (V : Int)) (hw : f.Width = (w : Int)) (hV2 : V < 18446744073709551616) (hw2 : w ≤ 64) (a : List Int) (ha : a.length ≤ 1000000000) :
    once g_ref03_Pack_o2 (((), f, ()), (), a, ()) = some ((a ++ ones (bitsN w V), ()), (), ()) := by
  have main : ∀ (d : Nat) (a : List Int), d ≤ w → a.length + d ≤ 2000000000 → lfp g_ref03_Pack_r3 ((a, (), (d : Int) - 1, ()), (f, ()), ()) = some ((a ++ ones (bitsN d V), ()), (f, ()), ()) := by
    intro d
    induction d with
    | zero =>
      intro a _ _
      refine lfp_inr ?_
      simp [g_ref03_Pack_r3, bitsN_zero, ones]
    | succ d ih =>
      intro a hd ha
      have e0 : ((d + 1 : Nat) : Int) - 1 = (d : Int) := by omega
      have h1 : decide (0 ≤ (d : Int)) = true := by simp
      have h2 : decide ((a.length + 1) * 1 ≤ 140737488355328) = true := by simp; omega
      have e1 : IntKind.i64.wrap ((d : Int) - 1) = (d : Int) - 1 := i64_in _ (by omega)
      have e : g_ref03_Pack_r3 ((a, (), (d : Int), ()), (f, ()), ()) = some (.inl ((a ++ [bif V.testBit d then 1 else 0], (), (d : Int) - 1, ()), (f, ()), ())) := by
        simp only [g_ref03_Pack_r3, h1, cond_true, hV, halvesP V d hV2 (by omega), Option.bind_some, h2, bit_int, e1]
        rfl
      rw [e0, lfp_inl e, ih _ (by omega) (by rw [List.length_append, List.length_singleton]; omega), bitsN_succ]
      simp [ones]
  have e1 : IntKind.i64.wrap (f.Width - 1) = (w : Int) - 1 := by rw [hw]; exact i64_in _ (by omega)
  rw [once]
  simp only [g_ref03_Pack_o2, e1, main w a (Nat.le_refl _) (by omega), Option.bind_some]
theorem len_fields : ∀ l : List Fld, (∀ f ∈ l, f.Width.toNat ≤ 64) → (l.flatMap fieldBits).length ≤ 64 * l.length
  | [], _ => by simp
  | f :: l, h => by
    have := len_fields l fun g hg => h g (List.mem_cons_of_mem _ hg)
    have h2 := h f (List.mem_cons_self ..)
    rw [List.flatMap_cons, List.length_append, List.length_cons]
    have : (fieldBits f).length = f.Width.toNat := len_bitsN _ _
    omega
theorem allBit_ones (l : List Bool) : allBit (ones l) = true := by
  unfold allBit ones
  rw [List.all_eq_true]
  intro x hx
  obtain ⟨b, _, rfl⟩ := List.mem_map.1 hx
  cases b <;> rfl
theorem onesOf_ones (l : List Bool) : onesOf (ones l) = l := by
  unfold onesOf ones
  rw [List.map_map]
  have : (isOne ∘ fun b => bif b then (1 : Int) else 0) = id := by funext b; cases b <;> rfl
  rw [this, List.map_id]
theorem eq_ref03_Pack : Eqs c_ref03_Pack g_ref03_Pack := fun (l, _) y hf h => by
  change List Fld at l
  obtain ⟨hs, h⟩ := guardK_some h
  have hs : l.length ≤ 1000000 := of_decide_eq_true hs
  cases h
  show g_ref03_Pack (l, ()) = some ((packF l).1, (packF l).2, ())
  have hfl : ∀ i, i < l.length → (0 ≤ (lat l (i : Int)).Value ∧ (lat l (i : Int)).Value ≤ 18446744073709551615) ∧ I64 (lat l (i : Int)).Width := fun i hi => by
    rw [lat_nat l i hi]
    exact fine_field ((Fine.list.1 hf.1).2 _ (List.getElem_mem hi))
  simp only [g_ref03_Pack]
  rw [lfp_allH (fun i => ((ones ((l.take i).flatMap fieldBits), l, (l.length : Int), (i : Int), ()), (), ())) l.length (fun i => fitW (lat l (i : Int)).Value (lat l (i : Int)).Width) (.inl ((bytesOf [], 6, ()), (), ())) (.inr ((ones (l.flatMap fieldBits), ()), (), ())) (by rfl)
    (fun i hi hj hok => by
      have h1 : decide ((i : Int) < (l.length : Int)) = true := by simp; omega
      obtain ⟨hv, _⟩ := hfl i hi
      obtain ⟨w1, w2, _⟩ := fitW_iff.1 hok
      have hlen : (ones ((l.take i).flatMap fieldBits)).length ≤ 64 * l.length := by
        rw [len_ones]
        have hh := len_fields (l.take i) (fun f hf2 => by
          obtain ⟨k, hk, rfl⟩ := List.getElem_of_mem hf2
          rw [List.length_take] at hk
          have := hj k (by omega)
          rw [lat_nat l k (by omega)] at this
          rw [List.getElem_take]
          have := (fitW_iff.1 this).2.1
          omega)
        have : (l.take i).length ≤ l.length := by rw [List.length_take]; omega
        omega
      have ha := add_ok (lat l (i : Int)) (lat l (i : Int)).Value.toNat (lat l (i : Int)).Width.toNat (by omega) (by omega) (by omega) (by omega) (ones ((l.take i).flatMap fieldBits)) (by omega)
      simp only [g_ref03_Pack_r1, h1, Int.natCast_nonneg, decide_true, Bool.and_self, cond_true, hok, Bool.not_true, cond_false, ha, Option.bind_some, wrap1 i (by omega)]
      rw [take_at l i hi, List.flatMap_append, ones_append]
      simp [fieldBits])
    (fun i hi hj hok => by
      have h1 : decide ((i : Int) < (l.length : Int)) = true := by simp; omega
      simp only [g_ref03_Pack_r1, h1, Int.natCast_nonneg, decide_true, Bool.and_self, cond_true, hok, Bool.not_false])
    (by simp [g_ref03_Pack_r1]), all_of (p := fun f : Fld => fitW f.Value f.Width)]
  simp only [Option.bind_some]
  unfold packF
  cases l.all (fun f => fitW f.Value f.Width) with
  | false => rfl
  | true => simp only [cond_true, Sum.elim_inr, allBit_ones, Option.bind_some, onesOf_ones]

/-! ### The reference's writer -/
def fld (v w : Int) : Fld := Fld.mk (IntKind.u64.wrap v) w
theorem fld_bits {v : Int} {w : Nat} (h0 : 0 ≤ v) (h1 : v < 2 ^ 32) : fieldBits (fld v w) = bitsN w v.toNat := by
  unfold fieldBits fld
  obtain ⟨n, rfl⟩ := Int.eq_ofNat_of_zero_le h0
  simp only
  rw [u64N n (by omega), Int.toNat_natCast, Int.toNat_natCast]
theorem fld_fits {v : Int} {w : Nat} (h0 : 0 ≤ v) (h1 : v < 2 ^ w) (hw : 1 ≤ w) (hw2 : w ≤ 32) : fitW (fld v w).Value (fld v w).Width = true := by
  obtain ⟨n, rfl⟩ := Int.eq_ofNat_of_zero_le h0
  have hpow : 2 ^ w ≤ 2 ^ 32 := Nat.pow_le_pow_right (by omega) hw2
  have e1 : ((2 ^ w : Nat) : Int) = (2 : Int) ^ w := by simp
  rw [← e1] at h1
  refine fitW_iff.2 ⟨?_, ?_, .inr ?_⟩
  · show (1 : Int) ≤ (w : Int); omega
  · show (w : Int) ≤ 64; omega
  · show IntKind.u64.wrap (n : Int) < 2 ^ (w : Int).toNat
    rw [u64N n (by omega), Int.toNat_natCast, ← e1]; omega
def leavesF (l : List Int) : List Fld := l.map fun w => fld w 8
def joinsF (l : List Seat) : List Fld := l.flatMap fun s => [fld s.Who 8, fld s.Slot 6]
theorem leavesF_bits (l : List Int) (hg : ∀ w ∈ l, 0 ≤ w ∧ w ≤ 255) : (leavesF l).flatMap fieldBits = leavesB l ∧ ∀ f ∈ leavesF l, fitW f.Value f.Width = true := by
  constructor
  · unfold leavesF leavesB
    rw [List.flatMap_map, List.flatMap_def, List.flatMap_def]
    congr 1
    apply List.map_congr_left
    intro w hw
    have := hg w hw
    exact fld_bits (w := 8) this.1 (by omega)
  · intro f hf
    obtain ⟨w, hw, rfl⟩ := List.mem_map.1 hf
    have := hg w hw
    exact fld_fits (w := 8) this.1 (by omega) (by omega) (by omega)
theorem joinsF_bits : ∀ (l : List Seat), (∀ s ∈ l, (0 ≤ s.Who ∧ s.Who ≤ 255) ∧ 0 ≤ s.Slot ∧ s.Slot ≤ 63) → (joinsF l).flatMap fieldBits = joinsB l ∧ ∀ f ∈ joinsF l, fitW f.Value f.Width = true
  | [], _ => ⟨rfl, fun f hf => by simp [joinsF] at hf⟩
  | s :: l, hg => by
    obtain ⟨h1, h2⟩ := joinsF_bits l fun x hx => hg x (List.mem_cons_of_mem _ hx)
    obtain ⟨hw, hs⟩ := hg s (List.mem_cons_self ..)
    have e : joinsF (s :: l) = fld s.Who 8 :: fld s.Slot 6 :: joinsF l := rfl
    rw [e]
    constructor
    · have k1 : fieldBits (fld s.Who 8) = bitsN 8 s.Who.toNat := fld_bits (w := 8) hw.1 (by omega)
      have k2 : fieldBits (fld s.Slot 6) = bitsN 6 s.Slot.toNat := fld_bits (w := 6) hs.1 (by omega)
      rw [List.flatMap_cons, List.flatMap_cons, h1, k1, k2]
      simp [joinsB]
    · intro f hf
      rcases List.mem_cons.1 hf with rfl | hf
      · exact fld_fits (w := 8) hw.1 (by omega) (by omega) (by omega)
      · rcases List.mem_cons.1 hf with rfl | hf
        · exact fld_fits (w := 6) hs.1 (by omega) (by omega) (by omega)
        · exact h2 f hf
theorem len_joinsF : ∀ l : List Seat, (joinsF l).length = 2 * l.length
  | [] => rfl
  | s :: l => by
    have e : joinsF (s :: l) = fld s.Who 8 :: fld s.Slot 6 :: joinsF l := rfl
    rw [e, List.length_cons, List.length_cons, len_joinsF l, List.length_cons]; omega
theorem refWrite_leaves (l : List Int) (a : List Fld) (hl : l.length ≤ 64) (ha : a.length ≤ 1000) :
    lfp g_ref13_Write_r1 (((), a, l, (l.length : Int), 0, ()), (), ()) = some (((), a ++ leavesF l, ()), (), ()) := by
  rw [lfp_run' (fun i => (((), a ++ leavesF (l.take i), l, (l.length : Int), (i : Int), ()), (), ())) l.length (by simp [leavesF]) (fun i hi => by
    have h1 : decide ((i : Int) < (l.length : Int)) = true := by simp; omega
    have h2 : decide (((a ++ leavesF (l.take i)).length + 1) * 16 ≤ 140737488355328) = true := by
      rw [List.length_append, leavesF, List.length_map, List.length_take]; simp; omega
    simp only [g_ref13_Write_r1, h1, Int.natCast_nonneg, decide_true, Bool.and_self, cond_true, h2, wrap1 i (by omega)]
    rw [take_at l i hi]
    simp [leavesF, fld])]
  exact lfp_inr (by simp [g_ref13_Write_r1])
theorem refWrite_joins (l : List Seat) (a : List Fld) (hl : l.length ≤ 64) (ha : a.length ≤ 1000) :
    lfp g_ref13_Write_r2 ((a, l, (l.length : Int), 0, ()), (), ()) = some ((a ++ joinsF l, ()), (), ()) := by
  rw [lfp_run' (fun i => ((a ++ joinsF (l.take i), l, (l.length : Int), (i : Int), ()), (), ())) l.length (by simp [joinsF]) (fun i hi => by
    have h1 : decide ((i : Int) < (l.length : Int)) = true := by simp; omega
    have h2 : decide (((a ++ joinsF (l.take i)).length + 2) * 16 ≤ 140737488355328) = true := by
      rw [List.length_append, len_joinsF, List.length_take]; simp; omega
    simp only [g_ref13_Write_r2, h1, Int.natCast_nonneg, decide_true, Bool.and_self, cond_true, h2, wrap1 i (by omega)]
    rw [take_at l i hi]
    simp [joinsF, fld])]
  exact lfp_inr (by simp [g_ref13_Write_r2])
theorem eq_ref13_Write : Eqs c_ref13_Write g_ref13_Write := Eqs.tot fun (r, _) hf => by
  change Record at r
  show g_ref13_Write (r, ()) = some ((writeR r).1, (writeR r).2, ())
  unfold writeR
  cases hg : goodRec r with
  | false => simp only [g_ref13_Write, hg, Bool.not_false, cond_true, cond_false]
  | true =>
    have g := goodRec_iff.1 hg
    have q1 := refWrite_leaves r.Leaves [fld r.Epoch 8, fld r.Fresh 16, fld (r.Leaves.length : Int) 7] g.nl (by simp)
    have hl1 : ([fld r.Epoch 8, fld r.Fresh 16, fld (r.Leaves.length : Int) 7] ++ leavesF r.Leaves).length = 3 + r.Leaves.length := by simp [leavesF]; omega
    generalize hA : [fld r.Epoch 8, fld r.Fresh 16, fld (r.Leaves.length : Int) 7] ++ leavesF r.Leaves = A at *
    have q2 := refWrite_joins r.Joins (A ++ [fld (r.Joins.length : Int) 7]) g.nj (by rw [List.length_append, hl1]; have := g.nl; simp; omega)
    have d1 : decide ((A.length + 1) * 16 ≤ 140737488355328) = true := by rw [hl1]; have := g.nl; simp; omega
    have hl2 : ((A ++ [fld (r.Joins.length : Int) 7]) ++ joinsF r.Joins).length ≤ 1000 := by
      rw [List.length_append, List.length_append, hl1, len_joinsF]; have := g.nl; have := g.nj; simp; omega
    generalize hB : (A ++ [fld (r.Joins.length : Int) 7]) ++ joinsF r.Joins = B at *
    have d2 : decide (B.length ≤ 1000000) = true := by simp; omega
    have q1' : lfp g_ref13_Write_r1 (((), [Fld.mk (IntKind.u64.wrap r.Epoch) 8, Fld.mk (IntKind.u64.wrap r.Fresh) 16, Fld.mk (IntKind.u64.wrap (r.Leaves.length : Int)) 7], r.Leaves, (r.Leaves.length : Int), 0, ()), (), ()) = some (((), A, ()), (), ()) := q1
    have q2' : lfp g_ref13_Write_r2 ((List.append A [Fld.mk (IntKind.u64.wrap (r.Joins.length : Int)) 7], r.Joins, (r.Joins.length : Int), 0, ()), (), ()) = some ((B, ()), (), ()) := q2
    simp only [g_ref13_Write, hg, Bool.not_true, cond_false, cond_true, q1', Option.bind_some, d1, q2', d2]
    have hp : packF B = (packT (recBits r), 0) := by
      obtain ⟨a1, a2⟩ := leavesF_bits r.Leaves g.leaves
      obtain ⟨b1, b2⟩ := joinsF_bits r.Joins g.joins
      have f1 := fld_fits (v := r.Epoch) (w := 8) (by have := g.epoch; omega) (by have := g.epoch; omega) (by omega) (by omega)
      have f2 := fld_fits (v := r.Fresh) (w := 16) (by have := g.fresh; omega) (by have := g.fresh; omega) (by omega) (by omega)
      have f3 := fld_fits (v := (r.Leaves.length : Int)) (w := 7) (by omega) (by have := g.nl; omega) (by omega) (by omega)
      have f4 := fld_fits (v := (r.Joins.length : Int)) (w := 7) (by omega) (by have := g.nj; omega) (by omega) (by omega)
      have e1 := fld_bits (v := r.Epoch) (w := 8) (by have := g.epoch; omega) (by have := g.epoch; omega)
      have e2 := fld_bits (v := r.Fresh) (w := 16) (by have := g.fresh; omega) (by have := g.fresh; omega)
      have e3 := fld_bits (v := (r.Leaves.length : Int)) (w := 7) (by omega) (by have := g.nl; omega)
      have e4 := fld_bits (v := (r.Joins.length : Int)) (w := 7) (by omega) (by have := g.nj; omega)
      have hall : B.all (fun f => fitW f.Value f.Width) = true := by
        rw [List.all_eq_true]
        intro f hfm
        rw [← hB, ← hA] at hfm
        simp only [List.mem_append, List.mem_cons, List.not_mem_nil, or_false] at hfm
        rcases hfm with ((((rfl | rfl | rfl) | h) | rfl) | h)
        · exact f1
        · exact f2
        · exact f3
        · exact a2 f h
        · exact f4
        · exact b2 f h
      unfold packF
      rw [hall]
      have hbits : B.flatMap fieldBits = recBits r := by
        rw [← hB, ← hA, recBits_eq]
        simp only [List.flatMap_append, List.flatMap_cons, List.flatMap_nil, List.append_nil, a1, b1]
        rw [show fieldBits (fld r.Epoch 8) = _ from e1, show fieldBits (fld r.Fresh 16) = _ from e2, show fieldBits (fld (r.Leaves.length : Int) 7) = _ from e3, show fieldBits (fld (r.Joins.length : Int) 7) = _ from e4]
        simp
      rw [hbits]; rfl
    rw [hp]

/-! ### The reference's reader -/
def rrd (B : List Bool) (p : Nat) : RRd := RRd.mk (ones B) (p : Int)
theorem lat_ones (B : List Bool) (i : Nat) (h : i < B.length) : lat (ones B) (i : Int) = ((B.getD i false).toNat : Int) := by
  rw [lat_nat _ i (by rw [len_ones]; exact h)]
  simp only [ones, List.getElem_map, List.getD, List.getElem?_eq_getElem h, Option.getD_some]
  cases B[i] <;> rfl
theorem refTake_ok (B : List Bool) (p w : Nat) (hB : B.length ≤ 10000000000000) (h1 : 1 ≤ w) (h63 : w ≤ 63) (hp : p ≤ B.length) :
    once g_ref13_Read_o1 (((), (w : Int), ()), (rrd B p, ()), ()) = some ((((takeB B p w).1 : Int), (bif (takeB B p w).2.2 then 6 else 0), ()), (rrd B (takeB B p w).2.1, ()), ()) := by
  have d1 : decide ((w : Int) < 1) = false := by simp; omega
  have d2 : decide ((64 : Int) < (w : Int)) = false := by simp; omega
  have hb : (rrd B p).Bits.length = B.length := len_ones B
  have ha : (rrd B p).At = (p : Int) := rfl
  have e1 : IntKind.i64.wrap ((B.length : Int) - (p : Int)) = ((B.length - p : Nat) : Int) := by rw [i64_in _ (by omega)]; omega
  unfold once takeB
  simp only [g_ref13_Read_o1, d1, d2, cond_false, hb, ha, e1]
  by_cases hf : p + w ≤ B.length
  · have d3 : decide (((B.length - p : Nat) : Int) < (w : Int)) = false := by simp; omega
    have hrun : lfp g_ref13_Read_r2 (((), (w : Int), 0, 0, ()), (rrd B p, ()), ()) = some ((((valB ((B.drop p).take w) : Nat) : Int), ()), (rrd B (p + w), ()), ()) := by
      rw [lfp_run' (fun i => (((), (w : Int), ((valB ((B.drop p).take i) : Nat) : Int), (i : Int), ()), (rrd B (p + i), ()), ())) w (by simp [valB]) (fun i hi => by
        have h2 : decide ((i : Int) < (w : Int)) = true := by simp; omega
        have hat : (rrd B (p + i)).At = ((p + i : Nat) : Int) := rfl
        have hbi : (rrd B (p + i)).Bits = ones B := rfl
        have h3 : (decide (0 ≤ ((p + i : Nat) : Int)) && decide (((p + i : Nat) : Int) < ((ones B).length : Int))) = true := by rw [len_ones]; simp; omega
        have hs := take_snoc (B.drop p) i (by rw [List.length_drop]; omega)
        have hgd : (B.drop p).getD i false = B.getD (p + i) false := by simp [List.getD, List.getElem?_drop]
        rw [hgd] at hs
        have hv : valB ((B.drop p).take i) < 2 ^ i := by
          have := valB_lt ((B.drop p).take i)
          rwa [List.length_take, List.length_drop, show min i (B.length - p) = i by omega] at this
        have hpw : 2 ^ i ≤ 2 ^ 62 := Nat.pow_le_pow_right (by omega) (by omega)
        have hbt : (B.getD (p + i) false).toNat ≤ 1 := by cases B.getD (p + i) false <;> simp
        have e2 : IntKind.u64.wrap (2 * ((valB ((B.drop p).take i) : Nat) : Int)) = ((2 * valB ((B.drop p).take i) : Nat) : Int) := by
          rw [show (2 * ((valB ((B.drop p).take i) : Nat) : Int)) = ((2 * valB ((B.drop p).take i) : Nat) : Int) by omega, u64N _ (by omega)]
        have e3 : IntKind.u64.wrap ((B.getD (p + i) false).toNat : Int) = ((B.getD (p + i) false).toNat : Int) := u64N _ (by omega)
        have e4 : IntKind.u64.wrap (((2 * valB ((B.drop p).take i) : Nat) : Int) + ((B.getD (p + i) false).toNat : Int)) = ((valB ((B.drop p).take (i + 1)) : Nat) : Int) := by
          rw [hs, show (((2 * valB ((B.drop p).take i) : Nat) : Int) + ((B.getD (p + i) false).toNat : Int)) = ((2 * valB ((B.drop p).take i) + (B.getD (p + i) false).toNat : Nat) : Int) by omega, u64N _ (by omega)]
        have e5 : IntKind.i64.wrap (((p + i : Nat) : Int) + 1) = ((p + (i + 1) : Nat) : Int) := by rw [i64_in _ (by omega)]; omega
        simp only [g_ref13_Read_r2, h2, cond_true, hat, hbi, h3, e2, lat_ones B (p + i) (by omega), e3, e4, e5, wrap1 i (by omega)]
        rfl)]
      exact lfp_inr (by simp only [g_ref13_Read_r2, Int.lt_irrefl, decide_false, cond_false])
    simp only [d3, cond_false, hrun, Option.bind_some]
    rw [if_pos hf]
    rfl
  · have d3 : decide (((B.length - p : Nat) : Int) < (w : Int)) = true := by simp; omega
    simp only [d3, cond_true]
    rw [if_neg hf]
    rfl
theorem refTake1 (B : List Bool) (s : RdS) (w : Nat) (hB : B.length ≤ 10000000000000) (h1 : 1 ≤ w) (h63 : w ≤ 63) (hp : s.p ≤ B.length) :
    once g_ref13_Read_o1 (((), (w : Int), ()), (rrd B s.p, ()), ()) = some ((((takeB B s.p w).1 : Int), (bif (takeB B s.p w).2.2 then 6 else 0), ()), (rrd B (s.step B w).p, ()), ()) := refTake_ok B s.p w hB h1 h63 hp
theorem step_le {B : List Bool} {s : RdS} {w : Nat} (h : s.p ≤ B.length) : (s.step B w).p ≤ B.length := takeB_place B s.p w h
theorem leaves_le {B : List Bool} : ∀ (n : Nat) {s : RdS}, s.p ≤ B.length → (rdLeaves B n s).2.p ≤ B.length
  | 0, _, h => h
  | n + 1, s, h => leaves_le n (step_le h)
theorem takeB_i64 (B : List Bool) (p w : Nat) (h : w ≤ 62) : IntKind.i64.wrap ((takeB B p w).1 : Int) = ((takeB B p w).1 : Int) := by
  have := takeB_lt B p w
  have hpow : 2 ^ w ≤ 2 ^ 62 := Nat.pow_le_pow_right (by omega) h
  exact i64N _ (by omega)
theorem refRead_leaves (t : ByteArray) (B : List Bool) (hB : B.length ≤ 10000000000000) (n : Nat) (hn : n ≤ 1000) (ep fr : Int) : ∀ (d i : Nat) (s : RdS) (acc : List Int), i + d = n → acc.length = i → s.p ≤ B.length →
    lfp g_ref13_Read_r7 ((t, (), (), (), (n : Int), (i : Int), ()), (rrd B s.p, (ep, fr, acc, (), ()), ()), ()) =
      some ((t, (), (), (), ()), (rrd B (rdLeaves B d s).2.p, (ep, fr, acc ++ (rdLeaves B d s).1, (), ()), ()), ())
  | 0, i, s, acc, hi, _, _ => lfp_inr (by
      have : i = n := by omega
      subst this
      simp only [g_ref13_Read_r7, Int.lt_irrefl, decide_false, cond_false, rdLeaves, List.append_nil])
  | d + 1, i, s, acc, hi, ha, hp => by
    have h1 : decide ((i : Int) < (n : Int)) = true := by simp; omega
    have h2 : decide ((acc.length + 1) * 8 ≤ 140737488355328) = true := by simp; omega
    have hk' : once g_ref13_Read_o1 (((), 8, ()), (rrd B s.p, ()), ()) = _ := refTake1 B s 8 hB (by omega) (by omega) hp
    have e1 : IntKind.u64.wrap ((i : Int) + 1) = ((i + 1 : Nat) : Int) := by rw [show (i : Int) + 1 = ((i + 1 : Nat) : Int) by omega]; exact u64N _ (by omega)
    have ih := refRead_leaves t B hB n hn ep fr d (i + 1) (s.step B 8) (acc ++ [((takeB B s.p 8).1 : Int)]) (by omega) (by simp [ha]) (step_le hp)
    have e : g_ref13_Read_r7 ((t, (), (), (), (n : Int), (i : Int), ()), (rrd B s.p, (ep, fr, acc, (), ()), ()), ()) = some (.inl ((t, (), (), (), (n : Int), ((i + 1 : Nat) : Int), ()), (rrd B (s.step B 8).p, (ep, fr, acc ++ [((takeB B s.p 8).1 : Int)], (), ()), ()), ())) := by
      simp only [g_ref13_Read_r7, h1, cond_true, hk', Option.bind_some, h2, e1, takeB_i64 B s.p 8 (by omega)]
      rfl
    rw [lfp_inl e, ih]
    simp only [rdLeaves, List.append_assoc, List.singleton_append]
theorem refRead_joins (t : ByteArray) (B : List Bool) (hB : B.length ≤ 10000000000000) (n : Nat) (hn : n ≤ 1000) (ep fr : Int) : ∀ (d i : Nat) (s : RdS) (acc : List Seat), i + d = n → acc.length = i → s.p ≤ B.length →
    lfp g_ref13_Read_r12 ((t, (), (), (), (n : Int), (i : Int), ()), (rrd B s.p, (ep, fr, (), acc, ()), ()), ()) =
      some ((t, (), (), ()), (rrd B (rdJoins B d s).2.p, (ep, fr, (), acc ++ (rdJoins B d s).1, ()), ()), ())
  | 0, i, s, acc, hi, _, _ => lfp_inr (by
      have : i = n := by omega
      subst this
      simp only [g_ref13_Read_r12, Int.lt_irrefl, decide_false, cond_false, rdJoins, List.append_nil])
  | d + 1, i, s, acc, hi, ha, hp => by
    have h1 : decide ((i : Int) < (n : Int)) = true := by simp; omega
    have h2 : decide ((acc.length + 1) * 16 ≤ 140737488355328) = true := by simp; omega
    have hk' : once g_ref13_Read_o1 (((), 8, ()), (rrd B s.p, ()), ()) = _ := refTake1 B s 8 hB (by omega) (by omega) hp
    have hj' : once g_ref13_Read_o1 (((), 6, ()), (rrd B (s.step B 8).p, ()), ()) = _ := refTake1 B (s.step B 8) 6 hB (by omega) (by omega) (step_le hp)
    have e1 : IntKind.u64.wrap ((i : Int) + 1) = ((i + 1 : Nat) : Int) := by rw [show (i : Int) + 1 = ((i + 1 : Nat) : Int) by omega]; exact u64N _ (by omega)
    have ih := refRead_joins t B hB n hn ep fr d (i + 1) ((s.step B 8).step B 6) (acc ++ [⟨((takeB B s.p 8).1 : Int), ((takeB B (s.step B 8).p 6).1 : Int)⟩]) (by omega) (by simp [ha]) (step_le (step_le hp))
    have e : g_ref13_Read_r12 ((t, (), (), (), (n : Int), (i : Int), ()), (rrd B s.p, (ep, fr, (), acc, ()), ()), ()) = some (.inl ((t, (), (), (), (n : Int), ((i + 1 : Nat) : Int), ()), (rrd B ((s.step B 8).step B 6).p, (ep, fr, (), acc ++ [⟨((takeB B s.p 8).1 : Int), ((takeB B (s.step B 8).p 6).1 : Int)⟩], ()), ()), ())) := by
      simp only [g_ref13_Read_r12, h1, cond_true, hk', hj', Option.bind_some, h2, e1, takeB_i64 B s.p 8 (by omega), takeB_i64 B (s.step B 8).p 6 (by omega)]
      rfl
    rw [lfp_inl e, ih]
    simp only [rdJoins, List.append_assoc, List.singleton_append]
theorem eq_ref13_Read : Eqs c_ref13_Read g_ref13_Read := fun (t, _) y hf h => by
  change ByteArray at t
  obtain ⟨hs, h⟩ := guardK_some h
  have hs : t.size ≤ 1000000000000 := of_decide_eq_true hs
  have hl := len_bitsT t
  cases h
  show g_ref13_Read (t, ()) = some ((readR t).1, (readR t).2, ())
  unfold readR
  generalize hBt : bitsT t = B at *
  have hB : B.length ≤ 10000000000000 := by omega
  have z0 : (RdS.mk 0 false).p ≤ B.length := Nat.zero_le _
  have p1 := refTake1 B ⟨0, false⟩ 8 hB (by omega) (by omega) z0
  have p2 := refTake1 B ((RdS.mk 0 false).step B 8) 16 hB (by omega) (by omega) (step_le z0)
  have p3 := refTake1 B (((RdS.mk 0 false).step B 8).step B 16) 7 hB (by omega) (by omega) (step_le (step_le z0))
  have w1 := takeB_i64 B (RdS.mk 0 false).p 8 (by omega)
  have w2 := takeB_i64 B ((RdS.mk 0 false).step B 8).p 16 (by omega)
  generalize hv1 : (takeB B (RdS.mk 0 false).p 8).1 = v1 at *
  generalize hs1 : (RdS.mk 0 false).step B 8 = s1 at *
  generalize hv2 : (takeB B s1.p 16).1 = v2 at *
  generalize hs2 : s1.step B 16 = s2 at *
  have hn3 := takeB_lt B s2.p 7
  generalize hv3 : (takeB B s2.p 7).1 = v3 at *
  have k1 : s1.p ≤ B.length := by rw [← hs1]; exact step_le z0
  have k2 : s2.p ≤ B.length := by rw [← hs2]; exact step_le k1
  have k3 : (s2.step B 7).p ≤ B.length := step_le k2
  generalize hs3 : s2.step B 7 = s3 at *
  have p4 := refRead_leaves t B hB v3 (by omega) (v1 : Int) (v2 : Int) v3 0 s3 [] (by omega) rfl k3
  have k4 := leaves_le v3 k3
  have p5 := refTake1 B (rdLeaves B v3 s3).2 7 hB (by omega) (by omega) k4
  generalize hs4 : (rdLeaves B v3 s3) = L at *
  have hn5 := takeB_lt B L.2.p 7
  generalize hv5 : (takeB B L.2.p 7).1 = v5 at *
  have k5 : (L.2.step B 7).p ≤ B.length := step_le k4
  generalize hs5 : L.2.step B 7 = s5 at *
  have p6 := refRead_joins t B hB v5 (by omega) (v1 : Int) (v2 : Int) v5 0 s5 [] (by omega) rfl k5
  have hparse : parseR B = (⟨(v1 : Int), (v2 : Int), L.1, (rdJoins B v5 s5).1⟩, (rdJoins B v5 s5).2) := by
    have hv1' : (takeB B 0 8).1 = v1 := hv1
    simp only [parseR, hs1, hv1', hs2, hv2, hv3, hs3, hs4, hv5, hs5]
  generalize hs6 : (rdJoins B v5 s5) = J at *
  have hR : (parseR B).1 = ⟨(v1 : Int), (v2 : Int), L.1, J.1⟩ := by rw [hparse]
  have d0 : decide (t.size ≤ 1000000000000) = true := decide_eq_true hs
  have hz : RRd.mk (ones B) 0 = rrd B (RdS.mk 0 false).p := rfl
  have q1 : once g_ref13_Read_o1 (((), 8, ()), (rrd B (RdS.mk 0 false).p, ()), ()) = _ := p1
  have q2 : once g_ref13_Read_o1 (((), 16, ()), (rrd B s1.p, ()), ()) = _ := p2
  have q3 : once g_ref13_Read_o1 (((), 7, ()), (rrd B s2.p, ()), ()) = _ := p3
  have q4 : lfp g_ref13_Read_r7 ((t, (), (), (), (v3 : Int), 0, ()), (rrd B s3.p, ((v1 : Int), (v2 : Int), [], (), ()), ()), ()) = some ((t, (), (), (), ()), (rrd B L.2.p, ((v1 : Int), (v2 : Int), L.1, (), ()), ()), ()) := p4
  have q5 : once g_ref13_Read_o1 (((), 7, ()), (rrd B L.2.p, ()), ()) = _ := p5
  have q6 : lfp g_ref13_Read_r12 ((t, (), (), (), (v5 : Int), 0, ()), (rrd B s5.p, ((v1 : Int), (v2 : Int), (), [], ()), ()), ()) = some ((t, (), (), ()), (rrd B J.2.p, ((v1 : Int), (v2 : Int), (), J.1, ()), ()), ()) := p6
  simp only [g_ref13_Read, hBt, d0, cond_true, Option.bind_some, hz, q1, q2, q3, w1, w2, q4, q5, q6]
  rw [hR]
  generalize Record.mk (v1 : Int) (v2 : Int) L.1 J.1 = r
  unfold writeR
  cases goodRec r with
  | false => rfl
  | true =>
    simp only [cond_true, decide_true, Bool.not_true, cond_false, Bool.true_and]
    cases decide (packT (recBits r) = t) <;> rfl
end Go.Co.N
end

section
namespace Go.Co.N
open Go Go.Co

theorem eq_ref13_Same : Eqs c_ref13_Same g_ref13_Same := Eqs.tot fun (a, b, _) _ => by
  change Record at a b
  show g_ref13_Same (a, b, ()) = some (decide (a = b), ())
  obtain ⟨e1, f1, l1, j1⟩ := a
  obtain ⟨e2, f2, l2, j2⟩ := b
  simp only [g_ref13_Same]
  by_cases h1 : e1 = e2
  · by_cases h2 : f1 = f2
    · by_cases h3 : l1 = l2
      · simp [h1, h2, h3]
      · simp [h1, h2, h3]
    · simp [h1, h2]
  · simp [h1]
theorem nextR_st {t : Tree} {b : Batch} (h : (nextT t b).e = 0) : nextR t b = ((nextT t b).t, ⟨(nextT t b).t.Epoch, (nextT t b).left, (nextT t b).joined, items (nextT t b).t (nextT t b).left (nextT t b).joined⟩, 0) := by
  unfold nextR; rw [decide_eq_true h]; rfl
theorem eq_record_Of : Eqs c_record_Of g_record_Of := Eqs.tot fun (t, b, _) _ => by
  change Tree at t; change Batch at b
  show g_record_Of (t, b, ()) = some ((ofR t b).1, (ofR t b).2, ())
  unfold ofR
  simp only [g_record_Of, nextR_e]
  by_cases h : (nextT t b).e = 0
  · simp only [decide_eq_true h, Bool.not_true, cond_false, cond_true, nextR_st h]
  · simp only [decide_eq_false h, Bool.not_false, cond_false, cond_true]
end Go.Co.N
end

section
set_option maxRecDepth 100000
noncomputable section
namespace Go.Co.N
open Go Go.Co
/-- coterie/coterielaw13.lives -/
def g_law13_lives : Unit → Option (Bool × Unit)
  | _ => some (true, ())
/-- coterie/coterielaw13.RecordBytes -/
def g_law13_RecordBytes : Record × ByteArray × Unit → Option (Bool × Unit)
  | (a, b, _) => bif !decide ((writeR a).fst = (writeR a).fst) then some (false, ()) else bif !decide ((writeR a).snd = (writeR a).snd) then some (false, ()) else Option.bind (bif decide (ByteArray.size b ≤ 140737488355328) then some ((readR b).fst, (readR b).snd, ()) else none) fun y => Option.bind (bif decide (ByteArray.size b ≤ 1000000000000) then some ((readR b).fst, (readR b).snd, ()) else none) fun y_1 => bif decide (y.fst = y_1.fst) then some (decide (y.snd.fst = y_1.snd.fst), ()) else some (false, ())
end Go.Co.N
end
end

section
namespace Go.Co.N
open Go Go.Co

theorem eq_law13_lives : Eqs c_law13_lives g_law13_lives := fun _ _ _ h => h
/-! ### Written and read -/
end Go.Co.N
end

section
namespace Go.Co.N
open Go Go.Co

/-! ### Rows of records -/
/-- The log and the trees of a row of steps, and where it has led. -/
inductive Led : List ByteArray → List Tree → Tree → Prop
  | nil : Led [] [] startT
  | step {l : List ByteArray} {ns : List Tree} {t : Tree} {b : Batch} : Led l ns t → (nextT t b).e = 0 → Led (l ++ [packT (recBits (ofR t b).1)]) (ns ++ [(nextT t b).t]) (nextT t b).t
theorem Led.len {l : List ByteArray} {ns : List Tree} {t : Tree} (h : Led l ns t) : l.length = ns.length ∧ t.Epoch = ns.length ∧ ns.length ≤ 200 := by
  induction h with
  | nil => exact ⟨rfl, rfl, Nat.zero_le _⟩
  | step h0 he ih =>
    obtain ⟨a, b, c⟩ := nx_epoch he
    obtain ⟨i1, i2, i3⟩ := ih
    simp only [List.length_append, List.length_cons, List.length_nil]
    omega
theorem Led.last {l : List ByteArray} {ns : List Tree} {t : Tree} (h : Led l ns t) : (startT :: ns)[ns.length]? = some t := by
  cases h with
  | nil => rfl
  | step h0 he => simp
theorem Led.at {l : List ByteArray} {ns : List Tree} {t : Tree} (h : Led l ns t) : ∀ i, i < l.length → ∃ (p : Tree) (b : Batch), (startT :: ns)[i]? = some p ∧ (nextT p b).e = 0 ∧ l[i]? = some (packT (recBits (ofR p b).1)) ∧ ns[i]? = some (nextT p b).t := by
  induction h with
  | nil => intro i hi; cases hi
  | @step l ns t b h0 he ih =>
    intro i hi
    have hl := h0.len.1
    rw [List.length_append, List.length_singleton] at hi
    by_cases h1 : i < l.length
    · obtain ⟨p, c, a1, a2, a3, a4⟩ := ih i h1
      refine ⟨p, c, ?_, a2, ?_, ?_⟩
      · rw [← List.cons_append, List.getElem?_append_left (by rw [List.length_cons]; omega), a1]
      · rw [List.getElem?_append_left h1, a3]
      · rw [List.getElem?_append_left (by omega), a4]
    · have hi2 : i = l.length := by omega
      subst hi2
      refine ⟨t, b, ?_, he, ?_, ?_⟩
      · rw [← List.cons_append, List.getElem?_append_left (by rw [List.length_cons]; omega), hl, h0.last]
      · simp
      · rw [hl]; simp
/-! ### A right tree is never called wrong -/
end Go.Co.N
end

section
namespace Go.Co.N
open Go Go.Co

/-- The law where the text is short. -/
abbrev c_law13_RecordBytesU : Con := ⟨[.st .record, .str], [.bool], fun x => guardK (decide (ByteArray.size x.2.1 ≤ 1048576)) (some (true, ()))⟩
theorem eq_law13_RecordBytes : Eqs c_law13_RecordBytesU g_law13_RecordBytes := fun (r, b, _) y _ h => by
  change Record at r; change ByteArray at b
  have h' : guardK (decide (ByteArray.size b ≤ 1048576)) (some (true, ())) = some y := h
  by_cases hb : ByteArray.size b ≤ 1048576
  · have e1 : decide (ByteArray.size b ≤ 1048576) = true := decide_eq_true hb
    have e2 : decide (ByteArray.size b ≤ 140737488355328) = true := decide_eq_true (by omega)
    have e3 : decide (ByteArray.size b ≤ 1000000000000) = true := decide_eq_true (by omega)
    rw [e1] at h'
    show g_law13_RecordBytes (r, b, ()) = some y
    simp only [g_law13_RecordBytes, e2, e3, decide_true, Bool.not_true, cond_false, cond_true, Option.bind_some]
    exact h'
  · rw [decide_eq_false hb] at h'; cases h'
end Go.Co.N
end

section
namespace Go.Co
open Go.RowKit

/-! ### The answers' shapes -/
section
variable {P : Program} {f : Nat} {fn : Func} {body : Code} (hf : P.funcs[f]? = some fn) (hb : fn.body = some body) (hname : (fn.name == "runtime.NumGoroutine") = false)
include hf hb hname
end
end Go.Co
end

section
namespace Go.Proofs.YtmjobjaajnjgjaaDoor
open Go Go.Co Go.Proofs

def T : Tab := [(1, .one), (2, .ty (.int .i64)), (3, .ty (.int .i64)), (4, .ty .bool), (5, .ty (.int .u8)), (6, .ty (.int .u8)), (9, .ty .str), (10, .ty .str), (11, .ty .str), (12, .ty (.int .u64)), (15, .pt), (16, .pt), (17, .pt), (21, .ty (.int .i32)), (23, .ty (.st .key)), (24, .ty (.arr 21 (.st .key))), (25, .ty (.arr 21 (.st .key))), (27, .ty (.st .entry)), (28, .ty (.arr 64 (.st .entry))), (29, .ty (.arr 64 (.st .entry))), (31, .ty (.st .tree)), (32, .ty (.list (.int .i64))), (34, .ty (.st .batch)), (35, .one), (36, .ty (.list (.st .seat))), (38, .ty (.st .record)), (39, .ty (.int .i64)), (41, .one), (42, .one), (43, .ty (.list (.st .item))), (45, .ty (.st .rekey)), (47, .one), (48, .one), (49, .one), (50, .one), (51, .one), (53, .one), (54, .one), (55, .one), (56, .one), (57, .ty (.list (.st .batch))), (58, .one), (59, .ty (.list .str)), (60, .ty (.list (.st .tree))), (61, .one), (62, .one), (63, .one), (64, .one), (66, .ty (.st .seat)), (68, .one), (69, .one), (70, .one), (71, .pt), (72, .one), (73, .one), (74, .ty (.int .u64)), (75, .one), (76, .one), (78, .ty (.st .field)), (79, .one), (80, .ty (.list (.st .field))), (81, .one), (82, .pt), (83, .one), (85, .one), (86, .one), (87, .pt), (88, .one), (89, .one), (90, .one), (91, .one), (92, .one), (94, .one), (95, .ty (.int .u32)), (96, .one), (98, .one), (99, .one), (100, .one), (101, .one), (103, .ty (.st .box)), (105, .ty (.st .item)), (106, .one), (107, .ty (.arr 3 (.int .i64))), (109, .one), (110, .one), (112, .ty (.st .counter)), (113, .ty (.list (.int .u8))), (115, .ty (.st .writer)), (116, .one), (117, .one), (118, .ty (.int .u64)), (119, .one), (120, .one), (121, .one), (122, .one), (124, .ty (.st .breader)), (125, .one), (127, .ty (.st .rreader)), (128, .one), (129, .one), (131, .one), (132, .one), (133, .one), (134, .one), (135, .one), (136, .one), (137, .ty (.arr 256 .bool)), (138, .one), (139, .one), (141, .one), (142, .one), (143, .one), (144, .pt), (145, .ty (.arr 8 (.int .u8))), (146, .mp (.int .i64) (.int .i64)), (147, .one), (148, .one), (149, .one), (150, .one), (152, .one), (153, .one), (154, .one), (156, .one), (157, .one), (158, .one), (159, .ty (.arr 64 .bool)), (160, .one), (161, .one), (162, .one), (163, .ty (.list (.st .entry))), (164, .one), (165, .one), (166, .one), (167, .one), (168, .one), (169, .ty (.arr 64 (.int .u8))), (175, .ty (.int .u8)), (176, .ty (.int .u8)), (177, .one), (178, .pt), (179, .ty (.int .i32)), (180, .ty (.int .i32))]
theorem T_ok : TabOK Tryd.prog T := TabOK.of (by kernel_rfl)
def body (f : Func) : Code := match f.body with | some c => c | none => .skip
def noInl : (R : Type) → Nat → List AV → Mem → Nat → KO R → Option R := fun _ _ _ _ _ _ => none
def lsOf : List (Nat × List (Nat × LD)) → Nat → List (Nat × LD)
  | [], _ => []
  | (i, l) :: r, n => match Nat.beq n i with | true => l | false => lsOf r n
/-- Contracts (fr: those whose answers are new memory), loops' lines, calls gone into. -/
noncomputable def EF (con : Cons') (fr : List Nat) (Ls : List (Nat × List (Nat × LD))) (B : Bodies) : Nat → List (Nat × LD) → EE
  | 0, L => { T := T, con := con, lp := lpM L, inl := noInl, fr := fr }
  | n + 1, L => { T := T, con := con, lp := lpM L, inl := fun R f vs m nx K => inlJ (lsOf Ls f) (EF con fr Ls B n (lsOf Ls f)) B R f vs m nx K, fr := fr }
noncomputable def run (con : Cons') (L : List (Nat × LD)) (Ls : List (Nat × List (Nat × LD))) (B : Bodies) (f : Func) (args res : List Ty) (x : denL args) : Option (denL res) := evF (EF con [] Ls B 4 L) f (body f) args x (retK T f.results.toList res)
noncomputable def runF (con : Cons') (fr : List Nat) (L : List (Nat × LD)) (Ls : List (Nat × List (Nat × LD))) (B : Bodies) (f : Func) (args res : List Ty) (x : denL args) : Option (denL res) := evF (EF con fr Ls B 4 L) f (body f) args x (retK T f.results.toList res)
def FConsOK (con : Cons') (fr : List Nat) : Prop := ∀ f c, conOf con f = some c → (inL fr f = false → ConOK Tryd.prog f c) ∧ (inL fr f = true → FConOK Tryd.prog f c)
theorem FConsOK.nil {fr : List Nat} : FConsOK [] fr := fun f c h => by cases h
theorem FConsOK.cons {con : Cons'} {fr : List Nat} {i : Nat} {c : Con} (hi : inL fr i = false) (h : ConOK Tryd.prog i c) (hc : FConsOK con fr) : FConsOK ((i, c) :: con) fr := by
  intro f d hf
  unfold conOf at hf
  split at hf
  · rename_i hb
    have := Nat.eq_of_beq_eq_true hb; subst this
    cases hf; exact ⟨fun _ => h, fun hn => by rw [hi] at hn; cases hn⟩
  · exact hc f d hf
def ConsOK (con : Cons') : Prop := FConsOK con []
theorem ConsOK.nil : ConsOK [] := FConsOK.nil
theorem ConsOK.cons {con : Cons'} {i : Nat} {c : Con} (h : ConOK Tryd.prog i c) (hc : ConsOK con) : ConsOK ((i, c) :: con) := FConsOK.cons rfl h hc
def bodyLine (i : Nat) (f : Func) : Nat × Nat × List ResultVar × Code := (i, f.ntmps, f.results.toList, body f)
theorem BodiesOK.nil : BodiesOK Tryd.prog [] := fun f n rs b h => by cases h
theorem BodiesOK.cons {B : Bodies} {i : Nat} {f : Func} (hi : Tryd.prog.funcs[i]? = some f) (hs : (f.body.isSome && !(f.name == "runtime.NumGoroutine")) = true) (hB : BodiesOK Tryd.prog B) : BodiesOK Tryd.prog (bodyLine i f :: B) := by
  intro j n rs b h
  unfold bodyLine bodyOf at h
  split at h
  · rename_i hb
    have := Nat.eq_of_beq_eq_true hb; subst this
    cases h
    simp only [Bool.and_eq_true, Bool.not_eq_true'] at hs
    obtain ⟨c, hc⟩ := Option.isSome_iff_exists.1 hs.1
    exact ⟨f, hi, by unfold body; rw [hc], rfl, rfl, hs.2⟩
  · exact hB j n rs b h
theorem EF_lp {con : Cons'} {fr : List Nat} (Ls : List (Nat × List (Nat × LD))) (B : Bodies) (k : Nat) (L : List (Nat × LD)) : (EF con fr Ls B k L).lp = lpM L := by cases k <;> rfl
theorem EF_ok {con : Cons'} {fr : List Nat} (hc : FConsOK con fr) (Ls : List (Nat × List (Nat × LD))) {B : Bodies} (hB : BodiesOK Tryd.prog B) (C : Ctx) (hP : C.P = Tryd.prog) : ∀ (k : Nat) (L : List (Nat × LD)), EOK Tryd.prog C (EF con fr Ls B k L)
  | 0, L => ⟨T_ok, fun f c h => (hc f c h).1, fun f c h => (hc f c h).2, fun R f vs m nx K y h => (by cases h), hP⟩
  | k + 1, L => ⟨T_ok, fun f c h => (hc f c h).1, fun f c h => (hc f c h).2, inlO_ok (Es := fun f => EF con fr Ls B k (lsOf Ls f)) (fun f => lsOf Ls f) hB (fun f => EF_ok hc Ls hB C hP k (lsOf Ls f)) (fun f n => lpM_ok (EF_lp Ls B k (lsOf Ls f))) rfl, hP⟩
def shapeOK (f : Func) (c : Con) : Bool := f.body.isSome && !(f.name == "runtime.NumGoroutine") && c.args.all plainTy && c.res.all plainTy && Nat.ble c.args.length f.ntmps
theorem con_okF {con : Cons'} {fr : List Nat} (hc : FConsOK con fr) (L : List (Nat × LD)) (Ls : List (Nat × List (Nat × LD))) {B : Bodies} (hB : BodiesOK Tryd.prog B) {i : Nat} {f : Func} (hi : Tryd.prog.funcs[i]? = some f) {c : Con} (hs : shapeOK f c = true) (h : ∀ x y, FineL c.args x → c.fn x = some y → runF con fr L Ls B f c.args c.res x = some y) : ConOK Tryd.prog i c := by
  simp only [shapeOK, Bool.and_eq_true, Bool.not_eq_true'] at hs
  obtain ⟨⟨⟨⟨h1, h2⟩, h3⟩, h4⟩, h5⟩ := hs
  obtain ⟨b, hb⟩ := Option.isSome_iff_exists.1 h1
  refine con_of hi hb h2 (E := EF con fr Ls B 4 L) (fun C hP => EF_ok hc Ls hB C hP 4 L) (fun C _ => lpM_ok (EF_lp Ls B 4 L)) rfl h3 h4 h5 fun x y hf hxy => ?_
  have := h x y hf hxy
  unfold runF body at this
  rw [hb] at this
  exact this
theorem con_ok {con : Cons'} (hc : ConsOK con) (L : List (Nat × LD)) (Ls : List (Nat × List (Nat × LD))) {B : Bodies} (hB : BodiesOK Tryd.prog B) {i : Nat} {f : Func} (hi : Tryd.prog.funcs[i]? = some f) {c : Con} (hs : shapeOK f c = true) (h : ∀ x y, FineL c.args x → c.fn x = some y → run con L Ls B f c.args c.res x = some y) : ConOK Tryd.prog i c :=
  con_okF hc L Ls hB hi hs h
end Go.Proofs.YtmjobjaajnjgjaaDoor
end

section
namespace Go.Co
open Go Go.RowKit

/-- It speaks of cells alone. -/
structure Cl {α : Type} (n0 : Nat) (I : List α → World → Prop) : Prop where
  alloc : ∀ s A o, o.isCells = false → I s A → I s (A.alloc o)
  putObj : ∀ s A l o o', n0 ≤ l → I s A → A.heap[l]? = some o → o.isCells = false → o'.isCells = false → I s (A.putObj l o')
/-- What a round must achieve. -/
def roundPost {α : Type} (Be : Nat) (I : List α → World → Prop) (Ix : Code → List α → World → Prop) (xs : List α) (W : World) : Exit → Act → World → Prop
  | .normal, _, W' => KeepsOthers W W' ∧ W'.heap[Be]? = W.heap[Be]? ∧ I xs W'
  | .ret, _, W' => KeepsOthers W W' ∧ Ix .ret xs W'
  | .exit id, _, W' => KeepsOthers W W' ∧ Ix (.exit id) xs W'
  | _, _, _ => False
theorem rangeFunc_box {F : Fence} {n : Nat} {P : Program} {α : Type} {g : Operand} {ps : Array Tmp} {assign body : Code} {Q : Exit → Act → World → Prop} {a : Act} {w : World}
    (hro : F.round = none) (h1 : 1 ≤ n) {gf : Nat} {lb : Array Value} (hg : a.eval g = .func (.func gf) #[] lb) (hFg : F.fn gf) (eg : ∀ args w, (callFunc gf args).run P w = .ok (.enter gf args) w)
    {encs : α → Array Value} {Be : Nat} {tB : TypeId} {xB : Value} {G : World → Prop} {xs : List α} (hps : ∀ x, (encs x).size = ps.size)
    (hseq : ∀ (l : Nat) (J Jx : List α → World → Prop) (W : World), (∀ pre A x v, J pre A → Boxed A Be tB x → J pre (A.setCell ⟨Be, 0, none⟩ v)) → (∀ pre A, J pre A → G A) →
      (∀ pre x W, J pre W → pre ++ [x] <+: xs → YieldAt F (n - 1 - 1) P l (encs x) W fun e W' => (e = .returned (.bool true) ∧ J (pre ++ [x]) W' ∧ W'.heap[Be]? = W.heap[Be]?) ∨ (e = .returned (.bool false) ∧ Jx (pre ++ [x]) W')) →
      Boxed W Be tB xB → J [] W → CallsIn F (n - 1) P gf (#[.func (.yield l) #[] #[]] ++ lb) W fun e W' => (∃ v, e = .returned v) ∧ (J xs W' ∨ ∃ pre, pre <+: xs ∧ Jx pre W'))
    (hB : Boxed w Be tB xB) (I : List α → World → Prop) (Ix : Code → List α → World → Prop) (hI : Cl w.heap.size I) (hIx : ∀ c, Cl w.heap.size (Ix c)) (hset : ∀ pre A x v, I pre A → Boxed A Be tB x → I pre (A.setCell ⟨Be, 0, none⟩ v)) (hG : ∀ pre A, I pre A → G A) (h0 : I [] w) (a₁ : α → Act)
    (hassign : ∀ (l : Nat) (x : α) (W : World) (K : Act → World → Prop), K (a₁ x) W →
      assign.wpIn (F.inRound l) (n - 1 - 1) P (Exit.then K (fun _ _ _ => False)) { tmps := (ps.zip (encs x)).foldl (fun t (p, v) => t.setIfInBounds p v) a.tmps, defers := [] } W)
    (hbody : ∀ (l : Nat) (pre : List α) (x : α) (W : World), I pre W → pre ++ [x] <+: xs → body.wpIn (F.inRound l) (n - 1 - 1) P (roundPost Be I Ix (pre ++ [x]) W) (a₁ x) W)
    (hdone : ∀ (D : Nat) (W : World), I xs W → W.heap[D]? = some (.deferred (some [])) → w.heap.size ≤ D → Q .normal { a with defers := { target := .collected D, args := #[] } :: a.defers } W)
    (hstop : ∀ (D : Nat) (c : Code) (pre : List α) (W : World), pre <+: xs → Ix c pre W → W.heap[D]? = some (.deferred (some [])) → w.heap.size ≤ D → c.wpIn F n P Q { a with defers := { target := .collected D, args := #[] } :: a.defers } W) :
    (Code.rangeFunc g ps assign body).wpIn F n P Q a w := by
  refine wpIn_rangeFunc ?_
  intro fn hfn
  rw [hro]
  obtain ⟨rec, hrec⟩ : ∃ rec : LoopState → Option Code → Loop, rec = fun st pe => { state := st, pending := pe, fn, tmps := a.tmps, params := ps, assign, body, defers := w.heap.size } := ⟨_, rfl⟩
  obtain ⟨W1, hW1⟩ : ∃ W1, (w.alloc (.deferred (some []))).alloc (.loop (rec .ready none)) = W1 := ⟨_, rfl⟩
  have hL1 : W1.heap[w.heap.size + 1]? = some (.loop (rec .ready none)) := by
    rw [← hW1]; have := World.alloc_heap_new (w.alloc (.deferred (some []))) (.loop (rec .ready none)); rwa [World.size_alloc] at this
  have hK1 : W1.heap[w.heap.size]? = some (.deferred (some [])) := by
    rw [← hW1]; exact (Below.heap_alloc _ _ _ (by simp)).trans (World.alloc_heap_new w _)
  have hI1 : I [] W1 := by rw [← hW1]; exact hI.alloc _ _ _ rfl (hI.alloc _ _ _ rfl h0)
  have hB1 : Boxed W1 Be tB xB := by rw [← hW1]; exact (hB.alloc _).alloc _
  have hBlt : Be < w.heap.size := hB.lt
  refine ⟨w.heap.size + 1, [{ target := .collected w.heap.size, args := #[] }], W1, { target := .fn (.func gf) lb, args := #[.func (.yield (w.heap.size + 1)) #[] #[]] }, W1, gf,
    #[.func (.yield (w.heap.size + 1)) #[] #[]] ++ lb, W1, ?_, ?_, ?_, ?_, fun _ => h1, ?_⟩
  · rw [← hW1, hrec]; exact run_enterLoop_outer _ _ _ _ _
  · simp only [resolve, hg]
    simp [go_sem]
  · intro f' hf'; simp [Target.leads] at hf'; subst hf'; exact hFg
  · simp [invoke, go_sem, eg]
  · refine (hseq (w.heap.size + 1)
      (fun pre W => I pre W ∧ W.heap[w.heap.size + 1]? = some (.loop (rec .ready none)) ∧ W.heap[w.heap.size]? = some (.deferred (some [])))
      (fun pre W => ∃ c, Ix c pre W ∧ W.heap[w.heap.size + 1]? = some (.loop (rec .done (some c))) ∧ W.heap[w.heap.size]? = some (.deferred (some [])))
      W1 ?_ (fun pre A h => hG pre A h.1) ?_ hB1 ⟨hI1, hL1, hK1⟩).mono ?_
    · rintro pre A x v ⟨hi, hl, hk⟩ hb
      exact ⟨hset _ _ _ _ hi hb, (KeepsOthers.setCell A _ v).same _ _ hl rfl, (KeepsOthers.setCell A _ v).same _ _ hk rfl⟩
    · -- one round
      rintro pre x W ⟨hi, hl, hk⟩ hpre
      have hlt : w.heap.size + 1 < W.heap.size := (Array.getElem?_eq_some_iff.1 hl).1
      have hy := run_yield (P := P) (args := encs x) hl (by rw [hrec]; exact hps x)
      rw [hrec] at hy
      refine ⟨fn, _, assign, body, hy, roundIn_of_wpIn hfn (hassign _ x W _ ⟨_, run_beginRound hl (by rw [hrec]), ?_⟩)⟩
      have hl2 : (W.putObj (w.heap.size + 1) (.loop { rec .ready none with state := .busy })).heap[w.heap.size + 1]? = some (.loop { rec .ready none with state := .busy }) := World.putObj_heap_same hlt
      have hk2 : (W.putObj (w.heap.size + 1) (.loop { rec .ready none with state := .busy })).heap[w.heap.size]? = some (.deferred (some [])) := (World.putObj_heap_other (by omega)).trans hk
      have hb2 : (W.putObj (w.heap.size + 1) (.loop { rec .ready none with state := .busy })).heap[Be]? = W.heap[Be]? := World.putObj_heap_other (by omega)
      refine wpIn_mono (hbody _ pre x _ (hI.putObj _ _ _ _ _ (by omega) hi hl rfl rfl) hpre) ?_
      have fin : ∀ (jump : Option Code) (W3 : World), KeepsOthers (W.putObj (w.heap.size + 1) (.loop { rec .ready none with state := .busy })) W3 →
          (Instr.endRound (w.heap.size + 1) jump).run P W3 = .ok (.bool jump.isNone) (W3.putObj (w.heap.size + 1) (.loop (rec (if jump.isNone then .ready else .done) jump))) ∧
          W3.heap[w.heap.size + 1]? = some (.loop { rec .ready none with state := .busy }) ∧
          (W3.putObj (w.heap.size + 1) (.loop (rec (if jump.isNone then .ready else .done) jump))).heap[w.heap.size + 1]? = some (.loop (rec (if jump.isNone then .ready else .done) jump)) ∧
          (W3.putObj (w.heap.size + 1) (.loop (rec (if jump.isNone then .ready else .done) jump))).heap[w.heap.size]? = some (.deferred (some [])) := fun jump W3 hk3 => by
        have hl3 := hk3.same _ _ hl2 rfl
        have := run_endRound (P := P) jump hl3
        rw [hrec] at this ⊢
        exact ⟨this, by rw [hrec] at hl3; exact hl3, World.putObj_heap_same (Array.getElem?_eq_some_iff.1 hl3).1, (World.putObj_heap_other (by omega)).trans (hk3.same _ _ hk2 rfl)⟩
      rintro e a3 W3 hp
      cases e with
      | normal =>
        obtain ⟨hk3, hb3, hi3⟩ := hp
        obtain ⟨hr, hl3, hl4, hk4⟩ := fin none W3 hk3
        exact ⟨_, _, hr, .inl ⟨rfl, ⟨hI.putObj _ _ _ _ _ (by omega) hi3 hl3 rfl rfl, hl4, hk4⟩, ((World.putObj_heap_other (by omega)).trans hb3).trans hb2⟩⟩
      | ret =>
        obtain ⟨hk3, hi3⟩ := hp
        obtain ⟨hr, hl3, hl4, hk4⟩ := fin (some .ret) W3 hk3
        exact ⟨_, _, hr, .inr ⟨rfl, .ret, (hIx _).putObj _ _ _ _ _ (by omega) hi3 hl3 rfl rfl, hl4, hk4⟩⟩
      | exit id =>
        obtain ⟨hk3, hi3⟩ := hp
        obtain ⟨hr, hl3, hl4, hk4⟩ := fin (some (.exit id)) W3 hk3
        exact ⟨_, _, hr, .inr ⟨rfl, .exit id, (hIx _).putObj _ _ _ _ _ (by omega) hi3 hl3 rfl rfl, hl4, hk4⟩⟩
      | goto t => exact hp.elim
      | panic ch => exact hp.elim
      | outgrown => exact hp.elim
    · -- behind the iterator
      rintro e W2 ⟨⟨v, rfl⟩, (⟨hi, hl, hk⟩ | ⟨pre, hpre, c, hi, hl, hk⟩)⟩
      · exact ⟨none, _, by have := run_endLoop (P := P) hl (by rw [hrec]; simp); rw [hrec] at this; exact this, hdone _ _ (hI.putObj _ _ _ _ _ (by omega) hi hl rfl rfl) ((World.putObj_heap_other (by omega)).trans hk) (Nat.le_refl _)⟩
      · exact ⟨some c, _, by have := run_endLoop (P := P) hl (by rw [hrec]; simp); rw [hrec] at this; exact this, hstop _ c pre _ hpre ((hIx c).putObj _ _ _ _ _ (by omega) hi hl rfl rfl) ((World.putObj_heap_other (by omega)).trans hk) (Nat.le_refl _)⟩

/-! ### Nothing is frozen by an append -/
theorem fz_alloc (w : World) (o : Obj) (ho : ∀ cs e f, o = .cells cs e f → f = (0, 0)) (a : Addr) : (w.alloc o).frozen? a = w.frozen? a := by
  by_cases h : a.block = w.heap.size
  · have h1 : (w.alloc o).heap[a.block]? = some o := by rw [h]; exact World.alloc_heap_new w o
    have h2 : w.heap[a.block]? = none := by rw [h]; simp
    unfold World.frozen?
    rw [h1, h2]
    cases o with
    | cells cs e f => have := ho cs e f rfl; subst this; simp
    | _ => rfl
  · by_cases hlt : a.block < w.heap.size
    · exact frozen_same (Below.heap_alloc _ _ _ hlt)
    · have h1 : (w.alloc o).heap[a.block]? = none := Array.getElem?_eq_none (by have := World.size_alloc w o; omega)
      have h2 : w.heap[a.block]? = none := Array.getElem?_eq_none (by omega)
      exact frozen_same (h1.trans h2.symm)
theorem fz_set (w : World) (b : Addr) (v : Value) (a : Addr) : (w.setCell b v).frozen? a = w.frozen? a := by rw [World.frozen?_setCell]
theorem fz_putObj (w : World) {l : Nat} {o : Obj} (o' : Obj) (hl : w.heap[l]? = some o) (ho : o.isCells = false) (ho' : o'.isCells = false) (a : Addr) : (w.putObj l o').frozen? a = w.frozen? a := by
  by_cases h : a.block = l
  · have h1 : (w.putObj l o').heap[a.block]? = some o' := by rw [h]; exact World.putObj_heap_same (Array.getElem?_eq_some_iff.1 hl).1
    have nc : ∀ o : Obj, o.isCells = false → ∀ w : World, w.heap[a.block]? = some o → w.frozen? a = false := fun o ho w hw => by
      unfold World.frozen?
      rw [hw]
      cases o <;> first | rfl | (simp [Obj.isCells] at ho)
    rw [nc o' ho' _ h1, nc o ho w (by rw [h]; exact hl)]
  · exact frozen_same (World.putObj_heap_other h)
theorem fz_append {P : Program} {w : World} {base : Nat} {t ty e : TypeId} {i : TypeInfo} {z : Value} (ht : P.underlying t = some (.slice e)) (hi : P.info? e = some i) (hz : i.zero = some z)
    {v : Value} {n : Nat} {xs : List Value} (hown : w.ownsRow base e i.size v n xs) {a : Addr} {m c : Nat} {news : List Value} (hl : news.length = m * i.size) (hnews : ∀ j u, news[j]? = some u → w.cell? (a.add j) = some u) (h1 : ∀ u ∈ news, u.oneCell' = true)
    (hm : 0 < m) (h63 : n + m ≤ maxLen) (hbytes : (n + m) * i.bytes ≤ 140737488355328) {v' : Value} {w' : World} (hrun : (Builtin.append_ #[t, t] ty #[v, .slice (some a) m c]).run P w = .ok v' w') (b : Addr) : w'.frozen? b = w.frozen? b := by
  have hsmall : n + m ≤ 9223372036854775807 := by simp only [maxLen] at h63; omega
  have new : ∀ cs : Array Value, (w.drew.alloc (.cells cs e)).frozen? b = w.frozen? b := fun cs => (fz_alloc w.drew _ (fun _ _ _ h => by cases h; rfl) b).trans rfl
  rcases hown.2 with ⟨rfl, rfl⟩ | ⟨g, cap, cur, rfl, _, hg, _, _, hcs, _⟩
  · rw [run_append_nil (P := P) w t ty e i z ht hi hz a m c news hl hnews hm (by omega) (by simp only [Nat.zero_add] at hbytes; omega)] at hrun
    cases hrun; exact new _
  · by_cases hroom : n + m ≤ cap
    · have hfit : n * i.size + news.length ≤ cur.size := by rw [hl, hcs, ← Nat.add_mul]; exact Nat.mul_le_mul_right _ hroom
      rw [run_append_room (P := P) w t ty e i ht hi g n cap cur hg a m c news hl hnews h1 hroom hfit] at hrun
      cases hrun
      by_cases hb : b.block = g
      · have := setRow_heap w g cur (cur.toList.take (n * i.size) ++ news ++ cur.toList.drop (n * i.size + news.length)).toArray e (0, 0) hg
        unfold World.frozen?
        rw [hb, this, hg]
      · exact frozen_same (setRow_other w g b.block _ hb)
    · have holds : ∀ j u, xs[j]? = some u → w.cell? ((⟨g, 0, none⟩ : Addr).add j) = some u := hown.cells (g := g) rfl
      rw [run_append_grow (P := P) w t ty e i z ht hi hz ⟨g, 0, none⟩ n cap xs hown.1 holds a m c news hl hnews (by omega) (by omega) (growslice_fits (by omega) hbytes)] at hrun
      cases hrun; exact new _
/-- An append to a row of one's own, in a walk; nothing is frozen by it. -/
theorem wpListIn_append_fz {F : Fence} {k : Nat} {P : Program} (w : World) {ops : Array Oper} {rest : List Oper} {o : Oper} {a : Act} {Q : Exit → Act → World → Prop}
    (hg : o.guard = none) (s x : Operand) (t : TypeId) (hop : o.op = Op.call { callee := Callee.builtin Builtin.append, args := #[s, x], argTypes := #[t, t] })
    (base : Nat) (e : TypeId) (i : TypeInfo) (z : Value) (size bytes : Nat) (h1 : P.underlying t = some (.slice e)) (h2 : P.info? e = some i) (h3 : i.zero = some z) (h4 : i.size = size) (h5 : i.bytes = bytes) (h6 : z.cells.size = size) (h7 : 0 < size)
    (v : Value) (n : Nat) (xs : List Value) (hs : a.eval s = v) (hown : w.ownsRow base e size v n xs) (ad : Addr) (m c : Nat) (news : List Value) (hx : a.eval x = .slice (some ad) m c) (hn : news.length = m * size)
    (hc : ∀ j u, news[j]? = some u → w.cell? (ad.add j) = some u) (h1c : ∀ u ∈ news, u.oneCell' = true) (hm : 0 < m) (b1 : n + m ≤ maxLen) (b2 : (n + m) * bytes ≤ 140737488355328) (b3 : base ≤ w.heap.size)
    (hK : ∀ v' w', w'.ownsRow base e size v' (n + m) (xs ++ news) → w.grownBy w' v.ownBlock → (v' = .slice none 0 0 ↔ v = .slice none 0 0 ∧ m = 0) → (∀ b, w'.frozen? b = w.frozen? b) → wpListIn F k P ops Q rest (a.put o.dst v') w') :
    wpListIn F k P ops Q (o :: rest) a w := by
  refine wpListIn_plain hg fun K hK' => ?_
  obtain ⟨v', w', hrun, r1, r2, r3⟩ := run_append_own (P := P) w base t o.type e i z size bytes h1 h2 h3 h4 h5 h6 h7 v n xs hown ad m c news hn hc h1c b1 b2 b3
  subst h4; subst h5
  have hz := fun b => fz_append h1 h2 h3 hown hn hc h1c hm b1 b2 hrun b
  unfold Oper.wpIn
  refine ⟨?_, ?_⟩
  · simp [Oper.about, hop, resolve, Target.leads, Sem.run_pure]
  · rw [Oper.semAt_plain F _ _ (by rw [hop]; intro c hc'; cases hc')]
    simp [execOp, hop, resolve, invoke, builtin, hs, hx, hrun, Result.andThen]
    exact hK' _ _ (hK v' w' r1 r2 r3 hz)
end Go.Co
end

section
namespace Go.Proofs.YtmjobjaajnjgjaaDoor
open Go Go.Co Go.Co.N Go.Proofs Go.RowKit Go.Shelf
attribute [local go_sem] Oper.semAt_some

theorem low_walk {x : Nat} (h0 : 0 < x) (h1 : x < 18446744073709551616) : 0 ≤ IntKind.u64.wrap (Go.bits BinOp.and IntKind.u64 (x : Int) (IntKind.u64.wrap (-(x : Int))) * 285870213051353865) / 288230376151711744 ∧
    IntKind.u64.wrap (Go.bits BinOp.and IntKind.u64 (x : Int) (IntKind.u64.wrap (-(x : Int))) * 285870213051353865) / 288230376151711744 < 64 ∧
    tab64[(IntKind.u64.wrap (Go.bits BinOp.and IntKind.u64 (x : Int) (IntKind.u64.wrap (-(x : Int))) * 285870213051353865) / 288230376151711744).toNat]? = some (tzN x) := by
  have e1 : IntKind.u64.wrap (-(x : Int)) = ((18446744073709551616 - x : Nat) : Int) := by
    show (-(x : Int)) % 18446744073709551616 = _
    omega
  have e2 : Go.bits BinOp.and IntKind.u64 (x : Int) ((18446744073709551616 - x : Nat) : Int) = ((x &&& (18446744073709551616 - x) : Nat) : Int) := bw_and64 _ _ h1 (by omega)
  have e3 : IntKind.u64.wrap (((x &&& (18446744073709551616 - x) : Nat) : Int) * 285870213051353865) = (((x &&& (18446744073709551616 - x)) * 285870213051353865 % 18446744073709551616 : Nat) : Int) := by
    show (((x &&& (18446744073709551616 - x) : Nat) : Int) * 285870213051353865) % 18446744073709551616 = _
    omega
  have hlt : (x &&& (18446744073709551616 - x)) * 285870213051353865 % 18446744073709551616 < 18446744073709551616 := Nat.mod_lt _ (by omega)
  rw [e1, e2, e3]
  refine ⟨by omega, by omega, ?_⟩
  have := tab_low h0 (show x < 2 ^ 64 by omega)
  rw [show (((((x &&& (18446744073709551616 - x)) * 285870213051353865 % 18446744073709551616 : Nat) : Int)) / 288230376151711744).toNat = (x &&& (18446744073709551616 - x)) * 285870213051353865 % 18446744073709551616 / 288230376151711744 by omega]
  exact this
theorem glob_name : ∃ gl, Tryd.prog.globals[0]? = some gl ∧ gl.name = "math/bits.deBruijn64tab" := by
  have h : (Tryd.prog.globals[0]?.map (·.name)) = some "math/bits.deBruijn64tab" := by kernel_rfl
  cases hg : Tryd.prog.globals[0]? with
  | none => rw [hg] at h; cases h
  | some gl => rw [hg] at h; exact ⟨gl, rfl, Option.some.inj h⟩
theorem wrap_tz {x : Nat} (h0 : 0 < x) (h1 : x < 18446744073709551616) : wrap64 (tzN x : Int) = (tzN x : Int) := by
  have := (bitsL_cons h0 (show x < 2 ^ 64 by omega)).1
  exact Go.IntWalk.wrap64_in _ (by omega)
set_option maxHeartbeats 1000000 in
theorem tz_in (F : Fence) (n : Nat) (hF : F.fn 123) (hro : F.round = none) (x : Nat) (h0 : 0 < x) (h1 : x < 18446744073709551616) (w : World) (hg : GOK Tryd.prog w) :
    CallsIn F n Tryd.prog 123 #[.int .u64 (x : Int)] w fun e w' => e = .returned (.int .i64 (tzN x : Int)) ∧ w' = w := by
  obtain ⟨b1, b2, b3⟩ := low_walk h0 h1
  obtain ⟨gl, g1, g2⟩ := glob_name
  have hc := hg 0 gl g1 g2 _ _ b3
  have hx : ¬ (x : Int) = 0 := by omega
  have hx2 : ((x : Int) == 0) = false := by simpa using hx
  refine callsIn_of_wp Tryd.func123 rfl hF ?_ hro
  simp only [Tryd.ntmps123, List.size_toArray, List.length_cons, List.length_nil, Nat.reduceAdd, Nat.reduceSub, Array.replicate_succ, Array.replicate_zero, List.push_toArray, List.append_toArray, List.nil_append, List.cons_append]
  gi_wp2
  rw [wrap_tz h0 h1]
  go_ret
  exact ⟨rfl, rfl⟩

/-! ### The iterator -/
/-- What a box holds of a word. -/
def boxW (W : World) (B : Nat) : Nat := match W.cell? ⟨B, 0, none⟩ with | some (.int _ x) => x.toNat | _ => 0
theorem boxW_eq {W : World} {B x : Nat} {t : TypeId} (h : Boxed W B t (.int .u64 (x : Int))) : boxW W B = x := by
  unfold boxW; rw [h.cell]; simp
theorem pred_walk {x : Nat} (h0 : 0 < x) (h1 : x < 18446744073709551616) : Go.bits BinOp.and IntKind.u64 (x : Int) ((x : Int) - 1) = ((x &&& (x - 1) : Nat) : Int) := by
  have e1 : (x : Int) - 1 = ((x - 1 : Nat) : Int) := by omega
  rw [e1]
  exact bw_and64 _ _ h1 (by omega)
set_option maxRecDepth 100000 in
set_option maxHeartbeats 2000000 in
theorem each1_in (F : Fence) (n : Nat) (h103 : F.fn 122) (h104 : F.fn 123) (hro : F.round = none) (hn : 1 ≤ n) (l Be : Nat) (x0 : Nat) (hx0 : x0 < 18446744073709551616) (J Jx : List Nat → World → Prop)
    (hJ : ∀ pre A x v, J pre A → Boxed A Be 74 x → J pre (A.setCell ⟨Be, 0, none⟩ v)) (hJg : ∀ pre A, J pre A → GOK Tryd.prog A)
    (hY : ∀ (pre : List Nat) (x : Nat) W, J pre W → pre ++ [x] <+: bitsL x0 → YieldAt F (n - 1) Tryd.prog l #[.int .i64 (x : Int)] W fun e W' =>
      (e = .returned (.bool true) ∧ J (pre ++ [x]) W' ∧ W'.heap[Be]? = W.heap[Be]?) ∨ (e = .returned (.bool false) ∧ Jx (pre ++ [x]) W'))
    (W : World) (hBe : Boxed W Be 74 (.int .u64 (x0 : Int))) (h0 : J [] W) :
    CallsIn F n Tryd.prog 122 #[.func (.yield l) #[] #[], .pointer (some ⟨Be, 0, none⟩)] W fun e W' => (∃ v, e = .returned v) ∧ (J (bitsL x0) W' ∨ (∃ pre, pre <+: bitsL x0 ∧ Jx pre W')) := by
  refine callsIn_of_wp Tryd.func122 rfl h103 ?_ hro
  simp only [Tryd.ntmps122, List.size_toArray, List.length_cons, List.length_nil, Nat.reduceAdd, Nat.reduceSub, Array.replicate_succ, Array.replicate_zero, List.push_toArray, List.append_toArray, List.nil_append, List.cons_append]
  gi_wp2
  gi_loopw [] (fun wr => ∃ (pre : List Nat) (rem : Nat), bitsL x0 = pre ++ bitsL rem ∧ rem < 18446744073709551616 ∧ Boxed wr Be 74 (.int .u64 (rem : Int)) ∧ J pre wr)
    (fun wr => boxW wr Be)
  case atStart => exact ⟨[], x0, rfl, hx0, hBe, h0⟩
  case round =>
    obtain ⟨pre, rem, hx, hlt, hb, hJs⟩ := hrel
    have hc := hb.cell
    by_cases hz : rem = 0
    · subst hz
      have hz0 : (((0 : Nat) : Int) == 0) = true := rfl
      gi_wp2
      go_end0
      rw [bitsL_zero, List.append_nil] at hx
      exact ⟨⟨_, rfl⟩, .inl (by rw [hx]; exact hJs)⟩
    · have hz0 : (((rem : Nat) : Int) == 0) = false := by simpa using hz
      obtain ⟨k1, k2, k3⟩ := bitsL_cons (show 0 < rem by omega) (show rem < 2 ^ 64 by omega)
      have hpre : pre ++ [tzN rem] <+: bitsL x0 := ⟨bitsL (rem &&& (rem - 1)), by rw [hx, k2]; simp⟩
      obtain ⟨fn, tmps, assign, body, hy, hR⟩ := hY pre (tzN rem) wr hJs hpre
      gi_wp2_with (gi_at_call 123; refine (tz_in F (n - 1) h104 hro rem (by omega) hlt wr (hJg _ _ hJs)).mono ?_; rintro e w' ⟨rfl, rfl⟩)
      refine hR.mono ?_
      rintro e W3 (⟨rfl, hJ3, hk3⟩ | ⟨rfl, hJx3⟩)
      · have hb3 : Boxed W3 Be 74 (.int .u64 (rem : Int)) := hk3.trans hb
        have hc3 := hb3.cell
        have hf3 := hb3.frozen
        gi_wp2
        rw [pred_walk (by omega) hlt]
        go_roundw
        case rel => exact ⟨pre ++ [tzN rem], rem &&& (rem - 1), by rw [hx, k2]; simp, by omega, hb3.set _, hJ _ _ _ _ hJ3 hb3⟩
        case measure => rw [boxW_eq (hb3.set _), boxW_eq hb]; exact k3
      · gi_wp2
        refine bodyPost_ret (results_none rfl _ _ _) rfl ?_
        exact ⟨⟨_, rfl⟩, .inr ⟨pre ++ [tzN rem], hpre, hJx3⟩⟩
set_option maxHeartbeats 1000000 in
theorem each_in (F : Fence) (n : Nat) (hF : F.fn 119) (hro : F.round = none) (x : Int) (w : World) :
    CallsIn F n Tryd.prog 119 #[.int .u64 x] w fun e w' => e = .returned (.func (.func 122) #[] #[.pointer (some ⟨w.heap.size, 0, none⟩)]) ∧ w' = w.alloc (.cells #[.int .u64 x] 74) := by
  refine callsIn_of_wp Tryd.func119 rfl hF ?_ hro
  simp only [Tryd.ntmps119, List.size_toArray, List.length_cons, List.length_nil, Nat.reduceAdd, Nat.reduceSub, Array.replicate_succ, Array.replicate_zero, List.push_toArray, List.append_toArray, List.nil_append, List.cons_append]
  gi_wp2
  go_ret
  exact ⟨rfl, rfl⟩

/-! ### The least free slots -/
theorem count_calls (h : ConOK Tryd.prog 95 c_seats_Count) (s : Nat) (hs : s < 18446744073709551616) (w : World) (hg : GOK Tryd.prog w) :
    CallsIn Fence.wide 9 Tryd.prog 95 #[.int .u64 (s : Int)] w fun e w' => e = .returned (.int .i64 (cntW (s : Int))) ∧ Blw w.heap.size w w' := by
  refine callsIn_wide.2 (Calls.mono (h.run w (fun _ => False) ((s : Int), ()) [.int .u64 (s : Int)] _ hg (fun _ h => h.elim) ⟨⟨_, rfl, Rd.int.2 ⟨rfl, ?_⟩⟩, trivial⟩ rfl) ?_)
  · rw [inKind_iff]; show 0 ≤ (s : Int) ∧ (s : Int) ≤ 18446744073709551615; omega
  · rintro e w' ⟨z, rfl, hb, cs, hz, hr⟩
    have hr := (Rd.int.1 hr).1
    subst hr
    exact ⟨by rw [hz]; rfl, hb⟩
theorem bit_calls (h : ConOK Tryd.prog 120 c_seats_bit) (i : Nat) (hi : i < 64) (w : World) (hg : GOK Tryd.prog w) :
    CallsIn Fence.wide 7 Tryd.prog 120 #[.int .i64 (i : Int)] w fun e w' => e = .returned (.int .u64 ((2 ^ i : Nat) : Int)) ∧ Blw w.heap.size w w' := by
  refine callsIn_wide.2 (Calls.mono (h.run w (fun _ => False) ((i : Int), ()) [.int .i64 (i : Int)] _ hg (fun _ h => h.elim) ⟨⟨_, rfl, Rd.int.2 ⟨rfl, ?_⟩⟩, trivial⟩ rfl) ?_)
  · rw [inKind_iff]; show -9223372036854775808 ≤ (i : Int) ∧ (i : Int) ≤ 9223372036854775807; omega
  · rintro e w' ⟨z, rfl, hb, cs, hz, hr⟩
    have hr := (Rd.int.1 hr).1
    subst hr
    refine ⟨?_, hb⟩
    rw [hz]
    show Ending.returned (Value.int IntKind.u64 (bitOf (i : Int))) = _
    unfold bitOf
    rw [if_pos ⟨by omega, by omega⟩, Int.toNat_natCast]
/-- An answer of three. -/
def takeRes (W : World) (base : Nat) (z : Value) (l : List Nat) (s : Nat) : Prop := ∃ v, z = .tuple #[v, .int .u64 (s : Int), .int .i64 0] ∧ W.ownsRow base 3 1 v l.length (l.map fun (i : Nat) => Value.int .i64 (i : Int))
theorem region_key {F : Fence} {n : Nat} {P : Program} {c : Code} {K : Act → World → Prop} {X : Exit → Act → World → Prop} {a : Act} {w : World} (a' : Act) (Inv : World → Prop) (h1 : ∀ w', Inv w' → K a' w')
    (h2 : c.wpIn F n P (Exit.then (fun a w => a = a' ∧ Inv w) (fun _ _ _ => False)) a w) : c.wpIn F n P (Exit.then K X) a w :=
  Go.wpIn_mono h2 fun e a w h => by
    cases e with
    | normal => obtain ⟨rfl, h⟩ := h; exact h1 w h
    | _ => exact h.elim
theorem region_calm {F : Fence} {n : Nat} {P : Program} {c : Code} {K : Act → World → Prop} {X : Exit → Act → World → Prop} {a : Act} {w : World} (h : c.wpIn F n P (Exit.then K (fun _ _ _ => False)) a w) : c.wpIn F n P (Exit.then K X) a w :=
  Go.wpIn_mono h fun e a w h => by cases e <;> first | exact h | exact h.elim
theorem res100 (tmps : Array Value) (w : World) : (results Tryd.f100 tmps).run Tryd.prog w = .ok (.tuple #[tmps.getD 4 undef, tmps.getD 5 undef, tmps.getD 6 undef]) w := by
  simp [results, Tryd.f100, go_sem]
theorem compl_bits {s : Nat} (hs : s < 18446744073709551616) : Go.bits BinOp.xor IntKind.u64 IntKind.u64.max (s : Int) = ((18446744073709551615 - s : Nat) : Int) := by
  have hx : bw .xor .u64 ((18446744073709551615 : Nat) : Int) (s : Int) = ((18446744073709551615 ^^^ s : Nat) : Int) :=
    bwN (op := .xor) (f := fun a b => a ^^^ b) (fun a b ha hb => Nat.xor_lt_two_pow (n := 64) ha hb) (fun a b ha hb => by
      show (BitVec.ofNat 64 a ^^^ BitVec.ofNat 64 b).toNat = _
      simp [BitVec.toNat_xor, Nat.mod_eq_of_lt ha, Nat.mod_eq_of_lt hb]) _ _ (by omega) hs
  refine hx.trans ?_
  congr 1
  apply Nat.eq_of_testBit_eq
  intro i
  have h1 := Nat.testBit_two_pow_sub_one 64 i
  have h2 := Nat.testBit_two_pow_sub_succ (n := 64) (x := s) (by omega) i
  rw [Nat.testBit_xor, show (18446744073709551615 : Nat) = 2 ^ 64 - 1 from rfl, h1, show (2 : Nat) ^ 64 - 1 - s = 2 ^ 64 - (s + 1) by omega, h2]
  by_cases hi : i < 64
  · simp [hi]
  · have : s.testBit i = false := Nat.testBit_lt_two_pow (Nat.lt_of_lt_of_le (show s < 2 ^ 64 by omega) (Nat.pow_le_pow_right (by omega) (by omega)))
    simp [hi, this]
theorem bitI_nat (s i : Nat) : bitI (s : Int) i = s.testBit i := by
  unfold bitI
  rw [Nat.testBit_eq_decide_div_mod_eq]
  congr 1
  rw [show ((s : Int) / 2 ^ i) = ((s / 2 ^ i : Nat) : Int) by simp]
  simp only [eq_iff_iff]; omega
theorem bitsL_compl {s : Nat} (hs : s < 18446744073709551616) : bitsL (18446744073709551615 - s) = freeL (s : Int) := by
  unfold bitsL freeL
  refine List.filter_congr fun i hi => ?_
  have hi : i < 64 := by simpa using hi
  have h2 := Nat.testBit_two_pow_sub_succ (n := 64) (x := s) (by omega) i
  rw [show (18446744073709551615 : Nat) - s = 2 ^ 64 - (s + 1) by omega, h2, bitI_nat]
  simp [hi]
theorem freeL_len (s : Nat) : (freeL (s : Int)).length = 64 - cntW (s : Int) := by
  unfold freeL cntW
  rw [filter_cnt, filter_cnt]
  have := cntP_not (bitI (s : Int)) 64
  omega
theorem orL_snoc (s : Nat) (l : List Nat) (i : Nat) : orL s (l ++ [i]) = orL s l ||| 2 ^ i := by simp [orL]
theorem orL_lt {s : Nat} (hs : s < 18446744073709551616) : ∀ l : List Nat, (∀ i ∈ l, i < 64) → orL s l < 18446744073709551616 := by
  intro l
  induction l generalizing s with
  | nil => intro _; exact hs
  | cons i l ih =>
    intro h
    refine ih ?_ fun j hj => h j (List.mem_cons_of_mem _ hj)
    have h2 : (2 : Nat) ^ i < 2 ^ 64 := Nat.pow_lt_pow_right (by omega) (h i (List.mem_cons_self ..))
    exact Nat.or_lt_two_pow (n := 64) hs h2
theorem or_walk {a b : Nat} (ha : a < 18446744073709551616) (hb : b < 18446744073709551616) : Go.bits BinOp.or IntKind.u64 (a : Int) (b : Int) = ((a ||| b : Nat) : Int) := bw_or64 _ _ ha hb
theorem bitsL_lt {x i : Nat} (h : i ∈ bitsL x) : i < 64 := by
  unfold bitsL at h
  simp only [List.mem_filter, List.mem_range] at h
  exact h.1
/-- What the loop keeps. -/
def takeI (w : World) (s : Nat) (n : Int) (N0 Bo : Nat) (pre : List Nat) (W : World) : Prop :=
  Blw w.heap.size w W ∧ N0 ≤ W.heap.size ∧ Boxed W w.heap.size 74 (.int .u64 (orL s pre : Int)) ∧ Boxed W (w.heap.size + 1) 3 (.int .i64 n) ∧ pre.length ≤ n.toNat ∧ ∃ v, Boxed W Bo 32 v ∧ W.ownsRow N0 3 1 v pre.length (pre.map fun (i : Nat) => Value.int .i64 (i : Int))
theorem Boxed.putObj {A : World} {B : Nat} {t : TypeId} {v : Value} (h : Boxed A B t v) {l : Nat} {o o' : Obj} (hl : A.heap[l]? = some o) (ho : o.isCells = false) : Boxed (A.putObj l o') B t v := by
  have hne : B ≠ l := fun e => by
    rw [e] at h
    rw [show A.heap[l]? = _ from h] at hl
    cases hl; cases ho
  exact (World.putObj_heap_other hne).trans h
theorem ownsRow_base {W : World} {b b' : Nat} {e : TypeId} {size : Nat} {v : Value} {k : Nat} {xs : List Value} (h : W.ownsRow b e size v k xs) (hb : b' ≤ b) : W.ownsRow b' e size v k xs := by
  refine ⟨h.1, ?_⟩
  rcases h.2 with h | ⟨g, cap, cur, h1, h2, h3⟩
  · exact .inl h
  · exact .inr ⟨g, cap, cur, h1, by omega, h3⟩
theorem ownsRow_form {W : World} {b : Nat} {e : TypeId} {size : Nat} {v : Value} {k : Nat} {xs : List Value} (h : W.ownsRow b e size v k xs) : ∃ ad cap, v = .slice ad k cap := by
  rcases h.2 with ⟨rfl, rfl⟩ | ⟨g, cap, cur, rfl, _⟩
  · exact ⟨_, _, rfl⟩
  · exact ⟨_, _, rfl⟩
theorem keeps_blw {A B : World} (h : Blw A.heap.size A B) : KeepsOthers A B := ⟨h.size, fun j o ho _ => (h.block j (Array.getElem?_eq_some_iff.1 ho).1).trans ho⟩
theorem takeI_cl (w : World) (s : Nat) (n : Int) (N0 Bo n0 : Nat) (hn : w.heap.size ≤ n0) : Cl n0 (takeI w s n N0 Bo) := by
  constructor
  · rintro pre A o ho ⟨h1, h2, h3, h4, h5, v, h6, h7⟩
    refine ⟨⟨h1.toBelow.alloc h1.size o, fun a => (fz_alloc A o (fun _ _ _ e => by subst e; cases ho) a).trans (h1.fz a)⟩, by simp; omega, h3.alloc _, h4.alloc _, h5, v, h6.alloc _, h7.alloc _⟩
  · rintro pre A l o o' hl ⟨h1, h2, h3, h4, h5, v, h6, h7⟩ hlo ho ho'
    refine ⟨⟨⟨h1.os, h1.tape, h1.output, Nat.le_trans h1.size (grownBy_putObj' A l o').size, fun k hk => (World.putObj_heap_other (by omega)).trans (h1.block k hk)⟩, fun a => (fz_putObj A o' hlo ho ho' a).trans (h1.fz a)⟩, Nat.le_trans h2 (grownBy_putObj' A l o').size, Boxed.putObj h3 hlo ho, Boxed.putObj h4 hlo ho, h5, v, Boxed.putObj h6 hlo ho, ownsRow_putObj h7 _ hlo ho⟩
set_option maxRecDepth 100000 in
set_option maxHeartbeats 4000000 in
theorem take_in (hcn : ConOK Tryd.prog 95 c_seats_Count) (hbt : ConOK Tryd.prog 120 c_seats_bit) (s : Nat) (hs : s < 18446744073709551616) (n : Int) (hn : -9223372036854775808 ≤ n ∧ n ≤ 9223372036854775807) (w : World) (hg : GOK Tryd.prog w) :
    CallsIn Fence.wide 10 Tryd.prog 100 #[.int .u64 (s : Int), .int .i64 n] w fun e W' => ∃ z, e = .returned z ∧ Blw w.heap.size w W' ∧
      (n < 0 → z = .tuple #[.slice none 0 0, .int .u64 0, .int .i64 1]) ∧ (0 ≤ n → 64 - cntW (s : Int) < n → z = .tuple #[.slice none 0 0, .int .u64 0, .int .i64 18]) ∧
      (0 ≤ n → n ≤ 64 - cntW (s : Int) → takeRes W' w.heap.size z ((freeL (s : Int)).take n.toNat) (orL s ((freeL (s : Int)).take n.toNat))) := by
  refine callsIn_of_wp_marks Tryd.func100 rfl trivial ?_ rfl
  simp only [Tryd.ntmps100, List.size_toArray, List.length_cons, List.length_nil, Nat.reduceAdd, Nat.reduceSub, Array.replicate_succ, Array.replicate_zero, List.push_toArray, List.append_toArray, List.nil_append, List.cons_append]
  have hmx : Tryd.prog.follows .mixedOrders = true := by kernel_rfl
  gi_wp2
  · exact ⟨_, res100 _ _, _, rfl, ⟨((Below.refl _ w).alloc (Nat.le_refl _) _).alloc (by simp) _, fun a => (fz_alloc _ _ (fun _ _ _ h => by cases h; rfl) a).trans (fz_alloc _ _ (fun _ _ _ h => by cases h; rfl) a)⟩, fun _ => rfl, fun h => absurd h (by omega), fun h => absurd h (by omega)⟩
  · have bS : Boxed ((w.alloc (.cells #[.int .u64 (s : Int)] 74)).alloc (.cells #[.int .i64 n] 3)) w.heap.size 74 (.int .u64 (s : Int)) := (Boxed.new w 74 _).alloc _
    have bN : Boxed ((w.alloc (.cells #[.int .u64 (s : Int)] 74)).alloc (.cells #[.int .i64 n] 3)) (w.heap.size + 1) 3 (.int .i64 n) := by
      have := Boxed.new (w.alloc (.cells #[.int .u64 (s : Int)] 74)) 3 (.int .i64 n)
      rwa [World.size_alloc] at this
    have b0 : Blw w.heap.size w ((w.alloc (.cells #[.int .u64 (s : Int)] 74)).alloc (.cells #[.int .i64 n] 3)) := ⟨((Below.refl _ w).alloc (Nat.le_refl _) _).alloc (by simp) _, fun a => (fz_alloc _ _ (fun _ _ _ h => by cases h; rfl) a).trans (fz_alloc _ _ (fun _ _ _ h => by cases h; rfl) a)⟩
    generalize hW2 : (w.alloc (.cells #[.int .u64 (s : Int)] 74)).alloc (.cells #[.int .i64 n] 3) = W2 at *
    have hlt2 : w.heap.size + 2 ≤ W2.heap.size := by rw [← hW2]; simp
    have c1 := bS.cell
    have c2 := bN.cell
    have hg2 : GOK Tryd.prog W2 := hg.blw b0 (Nat.le_refl _)
    have hcw := cntW_le (s : Int)
    have hwr : IntKind.i64.wrap (64 - cntW (s : Int)) = 64 - cntW (s : Int) := i64_in _ (by omega)
    refine region_key { tmps := #[.int .u64 (s : Int), .int .i64 n, .pointer (some ⟨w.heap.size, 0, none⟩), .pointer (some ⟨w.heap.size + 1, 0, none⟩), .slice none 0 0, .int .u64 0, .int .i64 0, undef, undef, .bool (decide (n < 0)), .int .i64 n, .bool (decide (n < 0)), .bool (decide ((64 - cntW (s : Int)) < n)), .int .i64 n, .int .u64 (s : Int), .int .i64 (cntW (s : Int)), .int .i64 ((64 - cntW (s : Int))), .bool (decide ((64 - cntW (s : Int)) < n)), undef, undef, undef, undef, undef, undef, undef, undef, undef, undef, undef, undef, undef, undef, undef, undef, undef, undef], defers := [] }
      (fun w' => Blw w.heap.size w w' ∧ Boxed w' w.heap.size 74 (.int .u64 (s : Int)) ∧ Boxed w' (w.heap.size + 1) 3 (.int .i64 n)) ?_ ?_
    rotate_left
    · gi_region_with_o (refine ⟨trivial, ?_⟩; gi_at_call 95; refine (count_calls hcn s hs W2.drew hg2).mono ?_; rintro e w' ⟨rfl, hb⟩; have bS3 : Boxed w' w.heap.size 74 (.int .u64 (s : Int)) := (hb.block _ (show w.heap.size < W2.heap.size by omega)).trans bS; have bN3 : Boxed w' (w.heap.size + 1) 3 (.int .i64 n) := (hb.block _ (show w.heap.size + 1 < W2.heap.size by omega)).trans bN; have b3 : Blw w.heap.size w w' := (b0.trans ⟨(Below.refl _ W2).drew, fun _ => rfl⟩).trans (hb.mono (show w.heap.size ≤ W2.heap.size by omega)); have c3 := bS3.cell; have c4 := bN3.cell)
      all_goals exact ⟨rfl, b3, bS3, bN3⟩
    rintro w' ⟨b3, bS3, bN3⟩
    have c3 := bS3.cell
    have c4 := bN3.cell
    have bS4 := bS3.alloc (.cells #[.slice none 0 0] 32)
    have c5 := bS4.cell
    gi_wp2_with (refine ⟨trivial, ?_⟩; gi_at_call 119; refine (each_in Fence.wide 9 trivial rfl _ _).mono ?_; rintro e w2 ⟨rfl, rfl⟩)
    · exact ⟨_, res100 _ _, _, rfl, b3, fun h => absurd h (by omega), fun _ _ => rfl, fun _ h => absurd h (by omega)⟩
    · rw [compl_bits hs]
      have hle : w.heap.size + 2 ≤ w'.heap.size := by have := bN3.lt; omega
      have bS5 := bS4.alloc (.cells #[.int .u64 ((18446744073709551615 - s : Nat) : Int)] 74)
      have bN5 := (bN3.alloc (.cells #[.slice none 0 0] 32)).alloc (.cells #[.int .u64 ((18446744073709551615 - s : Nat) : Int)] 74)
      have bO5 := (Boxed.new w' 32 (.slice none 0 0)).alloc (.cells #[.int .u64 ((18446744073709551615 - s : Nat) : Int)] 74)
      have bE5 := Boxed.new (w'.alloc (.cells #[.slice none 0 0] 32)) 74 (.int .u64 ((18446744073709551615 - s : Nat) : Int))
      rw [World.size_alloc] at bE5
      have hB5 : Blw w.heap.size w ((w'.alloc (.cells #[.slice none 0 0] 32)).alloc (.cells #[.int .u64 ((18446744073709551615 - s : Nat) : Int)] 74)) := ⟨(b3.toBelow.alloc b3.size _).alloc (by simp; exact Nat.le_succ_of_le b3.size) _, fun a => ((fz_alloc _ _ (fun _ _ _ h => by cases h; rfl) a).trans (fz_alloc _ _ (fun _ _ _ h => by cases h; rfl) a)).trans (b3.fz a)⟩
      have hsz : ((w'.alloc (.cells #[.slice none 0 0] 32)).alloc (.cells #[.int .u64 ((18446744073709551615 - s : Nat) : Int)] 74)).heap.size = w'.heap.size + 2 := by simp
      generalize (w'.alloc (.cells #[.slice none 0 0] 32)).alloc (.cells #[.int .u64 ((18446744073709551615 - s : Nat) : Int)] 74) = W0 at *
      obtain ⟨i0, hi, hz0, hz1, hz2⟩ := info_parts (show (Tryd.prog.info? 3).map (fun i => (i.zero, i.size, i.bytes)) = some (some (.int .i64 0), 1, 8) by kernel_rfl)
      refine rangeFunc_box (n := 10) rfl (by omega) (gf := 122) (lb := #[.pointer (some ⟨w'.heap.size + 1, 0, none⟩)]) rfl trivial (enters_of Tryd.func122 (by kernel_rfl) rfl) (encs := fun x : Nat => #[Value.int .i64 (x : Int)]) (Be := w'.heap.size + 1) (tB := 74) (xB := .int .u64 ((18446744073709551615 - s : Nat) : Int)) (G := GOK Tryd.prog) (xs := bitsL (18446744073709551615 - s)) (fun _ => rfl)
        (fun l J Jx W hJ hG hY hB h0 => each1_in Fence.wide 9 trivial trivial rfl (by omega) l (w'.heap.size + 1) _ (by omega) J Jx hJ hG hY W hB h0)
        bE5 (takeI w s n W0.heap.size w'.heap.size) (fun c pre W => c = .exit 1 ∧ ∃ (pre0 : List Nat) (x : Nat), pre = pre0 ++ [x] ∧ pre0.length = n.toNat ∧ takeI w s n W0.heap.size w'.heap.size pre0 W)
        (takeI_cl w s n _ _ _ (by omega)) (fun c => ⟨fun pre A o ho ⟨h1, pre0, x, h2, h3, h4⟩ => ⟨h1, pre0, x, h2, h3, (takeI_cl w s n _ _ W0.heap.size (by omega)).alloc _ _ _ ho h4⟩, fun pre A l o o' hl ⟨h1, pre0, x, h2, h3, h4⟩ hlo ho ho' => ⟨h1, pre0, x, h2, h3, (takeI_cl w s n _ _ W0.heap.size (by omega)).putObj _ _ _ _ _ hl h4 hlo ho ho'⟩⟩)
        ?set (fun pre A h => hg.blw h.1 (Nat.le_refl _)) ⟨hB5, Nat.le_refl _, bS5, bN5, by simp, _, bO5, World.ownsRow_nil _ _ _ _⟩
        (fun x => { tmps := #[.int .u64 (s : Int), .int .i64 n, .pointer (some ⟨w.heap.size, 0, none⟩), .pointer (some ⟨w.heap.size + 1, 0, none⟩), .slice none 0 0, .int .u64 0, .int .i64 0, .pointer (some ⟨w'.heap.size, 0, none⟩), .int .i64 (x : Int), .bool (decide (n < 0)), .int .i64 n, .bool (decide (n < 0)), .bool (decide ((64 - cntW (s : Int)) < n)), .int .i64 n, .int .u64 (s : Int), .int .i64 (cntW (s : Int)), .int .i64 (64 - cntW (s : Int)), .bool (decide ((64 - cntW (s : Int)) < n)), .int .u64 (s : Int), .int .u64 ((18446744073709551615 - s : Nat) : Int), .func (.func 122) #[] #[.pointer (some ⟨w'.heap.size + 1, 0, none⟩)], .int .i64 (x : Int), undef, undef, undef, undef, undef, undef, undef, undef, undef, undef, undef, undef, undef, undef], defers := [] })
        ?assign ?body ?done ?stop
      case set =>
        rintro pre A x v ⟨h1, h2, h3, h4, h5, v', h6, h7⟩ hb
        have oth : ∀ {B : Nat} {t : TypeId} {u : Value}, B ≠ w'.heap.size + 1 → Boxed A B t u → Boxed (A.setCell ⟨w'.heap.size + 1, 0, none⟩ v) B t u := fun hne h => (Below.heap_setCell _ _ _ _ hne).trans h
        refine ⟨⟨h1.toBelow.setCell (p := ⟨w'.heap.size + 1, 0, none⟩) (show w.heap.size ≤ w'.heap.size + 1 by omega) _, fun a => (fz_set _ _ _ a).trans (h1.fz a)⟩, Nat.le_trans h2 (grownBy_setCell' A _ v).size, oth (by omega) h3, oth (by omega) h4, h5, v', oth (by omega) h6, h7.kept (grownBy_setCell' A _ v) ?_⟩
        rcases h7.2 with ⟨rfl, _⟩ | ⟨g, cap, cur, rfl, hbg, _⟩
        · exact .inl rfl
        · exact .inr (by simp [Value.ownBlock]; omega)
      case assign =>
        intro l x W K hK
        gi_wp2
        exact hK
      case body =>
        rintro l pre x W ⟨h1, h2, h3, h4, h5, v, h6, h7⟩ hpre
        have hx64 : x < 64 := bitsL_lt (hpre.subset (List.mem_append.2 (.inr (by simp))))
        have hp64 : ∀ i ∈ pre, i < 64 := fun i hi => bitsL_lt (hpre.subset (List.mem_append.2 (.inl hi)))
        have hol := orL_lt hs pre hp64
        have hxp : (2 : Nat) ^ x < 18446744073709551616 := Nat.pow_lt_pow_right (by omega) hx64
        have hplen : pre.length ≤ 64 := by
          have := hpre.length_le
          have h2 : (bitsL (18446744073709551615 - s)).length ≤ 64 := by unfold bitsL; have := List.length_filter_le (fun i => (18446744073709551615 - s).testBit i) (List.range 64); simpa using this
          simp at this; omega
        have hml : (65 : Nat) ≤ maxLen := by decide
        obtain ⟨ad, cap, rfl⟩ := ownsRow_form h7
        have k3 := h3.cell
        have k4 := h4.cell
        have k6 := h6.cell
        have k3f := h3.frozen
        have k6f := h6.frozen
        gi_wp2_with (gi_at_builtin; refine wpListIn_append_fz _ rfl _ _ 32 rfl W0.heap.size 3 i0 (.int .i64 0) 1 8 Tryd.underlying32 hi hz0 hz1 hz2 rfl (by decide) _ _ _ rfl (h7.alloc _) ⟨W.heap.size, 0, none⟩ 1 1 [.int .i64 (x : Int)] rfl rfl (cell_one_new _ _ _) (by simp [Value.oneCell']) (by omega) (by omega) (by omega) (by simp; omega) ?_; intro v' w1 hown' hgrow _ hfz; obtain ⟨g', cap', rfl⟩ := ownsRow_succ hown'; obtain ⟨hv1, hv2, hr2, hk2, hb2⟩ := h6.appended (by decide) (ownsRow_base h7 (show w'.heap.size ≤ W0.heap.size by omega)) (by omega) (Nat.le_refl _) (ownsRow_base hown' (show w'.heap.size ≤ W0.heap.size by omega)) hgrow; have hB3 : Blw w'.heap.size W (w1.setCell ⟨w'.heap.size, 0, none⟩ (.slice (some ⟨g', 0, none⟩) (pre.length + 1) cap')) := ⟨hb2, fun a => (fz_set _ _ _ a).trans ((hfz a).trans (fz_alloc _ _ (fun _ _ _ h => by cases h; rfl) a))⟩; clear hfz; have hc1 := hv1.cell; have hf1 := hv1.frozen)
        · refine ⟨KeepsOthers.refl _, rfl, pre, x, rfl, ?_, h1, h2, h3, h4, h5, _, h6, h7⟩
          have : ((pre.length : Int) == n) = true := by assumption
          have := eq_of_beq this
          omega
        · have hBe : (w1.setCell ⟨w'.heap.size, 0, none⟩ (.slice (some ⟨g', 0, none⟩) (pre.length + 1) cap')).heap[w'.heap.size + 1]? = W.heap[w'.heap.size + 1]? := by
            have hgr : World.grownBy _ w1 (Value.slice ad pre.length cap).ownBlock := hgrow
            refine (Below.heap_setCell _ _ _ _ (by simp)).trans ((hgr.block _ (by simp; omega) ?_).trans (Below.heap_alloc _ _ _ (by omega)))
            rcases h7.2 with ⟨e, _⟩ | ⟨g, cap2, cur, e, hbg, _⟩
            · rw [e]; simp [Value.ownBlock]
            · rw [e]; simp [Value.ownBlock]; omega
          have hne : pre.length ≠ n.toNat := fun e => by
            have : ((pre.length : Int) == n) = false := by assumption
            rw [beq_eq_false_iff_ne] at this
            omega
          have hr3 := hown'.kept (grownBy_setCell' w1 w'.heap.size (.slice (some ⟨g', 0, none⟩) (pre.length + 1) cap')) (.inr (hv1.not_row (by decide) hown').symm)
          have s3 := (hB3.block _ (show w.heap.size < w'.heap.size by omega)).trans h3
          have n3 := (hB3.block _ (show w.heap.size + 1 < w'.heap.size by omega)).trans h4
          have B3 : Blw w.heap.size w (w1.setCell ⟨w'.heap.size, 0, none⟩ (.slice (some ⟨g', 0, none⟩) (pre.length + 1) cap')) := h1.trans (hB3.mono (by omega))
          have sz3 : W0.heap.size ≤ (w1.setCell ⟨w'.heap.size, 0, none⟩ (.slice (some ⟨g', 0, none⟩) (pre.length + 1) cap')).heap.size := Nat.le_trans h2 hB3.size
          generalize w1.setCell ⟨w'.heap.size, 0, none⟩ (.slice (some ⟨g', 0, none⟩) (pre.length + 1) cap') = W3 at *
          have s3b : Boxed W3 w.heap.size 74 (.int .u64 (orL s pre : Int)) := s3
          have n3b : Boxed W3 (w.heap.size + 1) 3 (.int .i64 n) := n3
          have q1 := s3b.cell
          have q2 := s3b.frozen
          have B3d : Blw w.heap.size w W3.drew := B3.trans ⟨(Below.refl _ W3).drew, fun _ => rfl⟩
          have hg3 : GOK Tryd.prog W3.drew := hg.blw B3d (Nat.le_refl _)
          have fin : ∀ w4, Blw W3.heap.size W3.drew w4 → KeepsOthers W (w4.setCell ⟨w.heap.size, 0, none⟩ (.int .u64 (Go.bits BinOp.or IntKind.u64 (orL s pre : Int) (2 ^ x)))) ∧ (w4.setCell ⟨w.heap.size, 0, none⟩ (.int .u64 (Go.bits BinOp.or IntKind.u64 (orL s pre : Int) (2 ^ x)))).heap[w'.heap.size + 1]? = W.heap[w'.heap.size + 1]? ∧
              takeI w s n W0.heap.size w'.heap.size (pre ++ [x]) (w4.setCell ⟨w.heap.size, 0, none⟩ (.int .u64 (Go.bits BinOp.or IntKind.u64 (orL s pre : Int) (2 ^ x)))) := fun w4 hb4 => by
            have e2 : ((2 : Int) ^ x) = ((2 ^ x : Nat) : Int) := by simp
            rw [e2, or_walk hol hxp, ← orL_snoc]
            have s4 : Boxed w4 w.heap.size 74 (.int .u64 (orL s pre : Int)) := (hb4.block _ (show w.heap.size < W3.heap.size by omega)).trans s3b
            have n4 : Boxed w4 (w.heap.size + 1) 3 (.int .i64 n) := (hb4.block _ (show w.heap.size + 1 < W3.heap.size by omega)).trans n3b
            have o4 : Boxed w4 w'.heap.size 32 (.slice (some ⟨g', 0, none⟩) (pre.length + 1) cap') := (hb4.block _ (show w'.heap.size < W3.heap.size by omega)).trans hv2
            have hgl : g' < W3.heap.size := by
              rcases hr3.2 with ⟨e, _⟩ | ⟨g, cap2, cur, e, _, hgb, _⟩
              · cases e
              · cases e; exact (Array.getElem?_eq_some_iff.1 hgb).1
            have r4 : w4.ownsRow W0.heap.size 3 1 (.slice (some ⟨g', 0, none⟩) (pre.length + 1) cap') (pre.length + 1) ((pre.map fun (i : Nat) => Value.int .i64 (i : Int)) ++ [Value.int .i64 (x : Int)]) := by
              refine ⟨hr3.1, ?_⟩
              rcases hr3.2 with ⟨e, _⟩ | ⟨g, cap2, cur, e, k1, hgb, k2⟩
              · cases e
              · cases e
                exact .inr ⟨g', cap', cur, rfl, k1, (hb4.block _ hgl).trans hgb, k2⟩
            refine ⟨(hk2.trans (KeepsOthers.drew W3)).trans ((keeps_blw (A := W3.drew) hb4).trans (KeepsOthers.setCell _ _ _)), (Below.heap_setCell _ _ _ _ (by simp; omega)).trans ((hb4.block _ (show w'.heap.size + 1 < W3.heap.size by omega)).trans hBe), ?_⟩
            have b4 : Blw w.heap.size w w4 := B3d.trans (hb4.mono (by omega))
            refine ⟨⟨b4.toBelow.setCell (p := ⟨w.heap.size, 0, none⟩) (Nat.le_refl _) _, fun a => (fz_set _ _ _ a).trans (b4.fz a)⟩, Nat.le_trans (Nat.le_trans sz3 hb4.size) (grownBy_setCell' w4 _ _).size, s4.set _, (Below.heap_setCell _ _ _ _ (by simp)).trans n4, by simp; omega, _, (Below.heap_setCell _ _ _ _ (by simp; omega)).trans o4, ?_⟩
            have := r4.kept (grownBy_setCell' w4 w.heap.size (.int .u64 (orL s (pre ++ [x]) : Int))) (.inr (s4.not_row (by decide) r4).symm)
            simpa using this
          gi_region_with_o (refine ⟨trivial, ?_⟩; gi_at_call 120; refine (CallsIn.inRound l (bit_calls hbt x hx64 W3.drew hg3)).mono ?_; rintro e w4 ⟨rfl, hb4⟩; have s4 : Boxed w4 w.heap.size 74 (.int .u64 (orL s pre : Int)) := (hb4.block _ (show w.heap.size < W3.heap.size by omega)).trans s3b; have q3 := s4.cell; have q4 := s4.frozen)
          all_goals (gi_wp2; exact fin w4 hb4)
      case done =>
        rintro D W hT hK hD
        rw [bitsL_compl hs] at hT
        have hnn : 0 ≤ n := by omega
        have hlen := freeL_len s
        have h5' := hT.2.2.2.2.1
        have hall : (freeL (s : Int)).take n.toNat = freeL (s : Int) := List.take_of_length_le (by omega)
        obtain ⟨h1, h2, h3, h4, h5, v, h6, h7⟩ := hT
        obtain ⟨ad, cap, rfl⟩ := ownsRow_form h7
        have k3 := h3.cell
        have k6 := h6.cell
        gi_wp2
        refine region_calm ?_
        gi_region_with_o (fail)
        all_goals gi_wp2
        all_goals refine ⟨by simp, .inl ⟨_, _, rfl, run_takeDeferred (show W.drew.heap[D]? = _ from hK), ?_⟩⟩
        all_goals refine ⟨_, res100 _ _, _, rfl, ⟨⟨h1.os, h1.tape, h1.output, Nat.le_trans h1.size (grownBy_putObj' W.drew D (.deferred none)).size, fun k hk => (World.putObj_heap_other (by omega)).trans (h1.block k hk)⟩, fun a => (fz_putObj W.drew (.deferred none) hK rfl rfl a).trans (h1.fz a)⟩, fun h => absurd h (by omega), fun _ h => absurd h (by omega), fun _ _ => ?_⟩
        all_goals rw [hall]
        all_goals exact ⟨_, rfl, ownsRow_putObj (ownsRow_base h7 (by omega)) _ hK rfl⟩
      case stop =>
        rintro D c pre W hpre ⟨rfl, pre0, x, rfl, hl, hT⟩ hK hD
        rw [bitsL_compl hs] at hpre
        have hnn : 0 ≤ n := by omega
        have hall : (freeL (s : Int)).take n.toNat = pre0 := by
          obtain ⟨r, hr⟩ := hpre
          rw [← hr, ← hl]; simp
        clear hl
        obtain ⟨h1, h2, h3, h4, h5, v, h6, h7⟩ := hT
        obtain ⟨ad, cap, rfl⟩ := ownsRow_form h7
        have k3 := h3.cell
        have k6 := h6.cell
        gi_wp2
        refine region_calm ?_
        gi_region_with_o (fail)
        all_goals gi_wp2
        all_goals refine ⟨by simp, .inl ⟨_, _, rfl, run_takeDeferred (show W.drew.heap[D]? = _ from hK), ?_⟩⟩
        all_goals refine ⟨_, res100 _ _, _, rfl, ⟨⟨h1.os, h1.tape, h1.output, Nat.le_trans h1.size (grownBy_putObj' W.drew D (.deferred none)).size, fun k hk => (World.putObj_heap_other (by omega)).trans (h1.block k hk)⟩, fun a => (fz_putObj W.drew (.deferred none) hK rfl rfl a).trans (h1.fz a)⟩, fun h => absurd h (by omega), fun _ h => absurd h (by omega), fun _ _ => ?_⟩
        all_goals rw [hall]
        all_goals exact ⟨_, rfl, ownsRow_putObj (ownsRow_base h7 (by omega)) _ hK rfl⟩
theorem res_take {W : World} {im : Nat → Prop} {v : Value} {l : List Int} {s e : Int} {cs : List Value} (h1 : v = pk false cs) (h2 : Rd W im (.list .i) l cs) (hs : inKind .u64 s = true) (he : inKind .i64 e = true) :
    RV ⟨fun _ => none, W, im⟩ (resAV [.list .i, .int .u64, .i] (l, s, e, ())) (.tuple #[v, .int .u64 s, .int .i64 e]) := by
  refine ⟨[v, .int .u64 s, .int .i64 e], rfl, cs, _, ?_, h2, [.int .u64 s], _, rfl, Rd.int.2 ⟨rfl, hs⟩, [.int .i64 e], _, rfl, Rd.int.2 ⟨rfl, he⟩, rfl⟩
  rw [h1]; rfl
theorem row_ints {W : World} {base : Nat} {v : Value} {l : List Nat} (h : W.ownsRow base 3 1 v l.length (l.map fun (i : Nat) => Value.int .i64 (i : Int))) (hl : ∀ i ∈ l, i < 64) (hn : l.length ≤ 64) (im : Nat → Prop) (him : ∀ k, base ≤ k → k < W.heap.size → im k) :
    ∃ cs, v = pk false cs ∧ Rd W im (.list .i) (l.map fun (i : Nat) => (i : Int)) cs := by
  have hb : List.length (l.map fun (i : Nat) => (i : Int)) * Ty.bytes .i ≤ top := by
    rw [List.length_map]
    have : (64 : Nat) * Ty.bytes .i ≤ top := by decide
    exact Nat.le_trans (Nat.mul_le_mul_right _ hn) this
  rcases h.2 with ⟨rfl, h0⟩ | ⟨g, cap, cur, rfl, hbg, hg, hc, hcm, hsz, htk⟩
  · refine ⟨[.slice none 0 0], rfl, Rd.list.2 ⟨hb, .inl ⟨rfl, ?_⟩⟩⟩
    rw [List.length_eq_zero_iff.1 h0]; rfl
  · refine ⟨[.slice (some ⟨g, 0, none⟩) l.length cap], rfl, Rd.list.2 ⟨hb, .inr ⟨⟨g, 0, none⟩, cap, l.map fun (i : Nat) => [Value.int .i64 (i : Int)], by rw [List.length_map], fun _ => rfl, by rw [List.length_map]; exact hc, hcm, ?_, fun _ => him g hbg (Array.getElem?_eq_some_iff.1 hg).1, ?_⟩⟩⟩
    · clear h hn hb hc htk hsz
      induction l with
      | nil => trivial
      | cons i l ih =>
        refine ⟨Rd.int.2 ⟨rfl, ?_⟩, ih fun j hj => hl j (List.mem_cons_of_mem _ hj)⟩
        have := hl i (List.mem_cons_self ..)
        rw [inKind_iff]; show -9223372036854775808 ≤ (i : Int) ∧ (i : Int) ≤ 9223372036854775807; omega
    · intro j x hj
      have hfl : (l.map fun (i : Nat) => [Value.int .i64 (i : Int)]).flatten = l.map fun (i : Nat) => Value.int .i64 (i : Int) := by
        clear h hl hn hb hc htk hsz hj
        induction l with
        | nil => rfl
        | cons i l ih => simp [ih]
      rw [hfl, ← htk] at hj
      have hj2 : cur.toList[j]? = some x := by
        rw [List.getElem?_take] at hj
        split at hj
        · exact hj
        · cases hj
      have : cur[j]? = some x := by rw [← Array.getElem?_toList]; exact hj2
      simp [World.cell?, hg, this]
theorem ok_seats_Take_of (hcn : ConOK Tryd.prog 95 c_seats_Count) (hbt : ConOK Tryd.prog 120 c_seats_bit) : ConOK Tryd.prog 100 c_seats_Take := by
  refine ⟨FnOK.of Tryd.func100 rfl (by kernel_rfl), ?_, ?_⟩
  · decide
  · intro w I x xs y hg hI hx hxy
    obtain ⟨s, n, u⟩ := x
    change Int at s; change Int at n
    match xs, hx with
    | [a, b], hx =>
      obtain ⟨⟨c1, rfl, r1⟩, ⟨c2, rfl, r2⟩, _⟩ := hx
      obtain ⟨rfl, k1⟩ := Rd.int.1 r1
      obtain ⟨rfl, k2⟩ := Rd.int.1 r2
      rw [inKind_iff] at k1 k2
      have k1 : 0 ≤ s ∧ s ≤ 18446744073709551615 := k1
      have k2 : -9223372036854775808 ≤ n ∧ n ≤ 9223372036854775807 := k2
      obtain ⟨s, rfl⟩ : ∃ m : Nat, s = (m : Int) := ⟨s.toNat, by omega⟩
      have hs : s < 18446744073709551616 := by omega
      refine Calls.mono (callsIn_wide.1 (take_in hcn hbt s hs n k2 w hg)) ?_
      rintro e W ⟨z, rfl, hb, h1, h2, h3⟩
      refine ⟨z, rfl, hb, ?_⟩
      have hy : takeW (s : Int) n = (y.1, y.2.1, y.2.2.1) := by
        have : some ((takeW (s : Int) n).1, (takeW (s : Int) n).2.1, (takeW (s : Int) n).2.2, ()) = some y := hxy
        obtain rfl := Option.some.inj this
        rfl
      obtain ⟨yl, ys, ye, yu⟩ := y
      change takeW (s : Int) n = (yl, ys, ye) at hy
      unfold takeW at hy
      have hnil : ∀ im, Rd W im (.list .i) [] [.slice none 0 0] := fun im => Rd.list.2 ⟨by simp, .inl ⟨rfl, rfl⟩⟩
      by_cases hn : n < 0
      · rw [if_pos hn] at hy
        cases hy
        rw [h1 hn]
        exact res_take rfl (hnil _) (by decide) (by decide)
      · rw [if_neg hn] at hy
        by_cases hc : 64 - cntW (s : Int) < n
        · rw [if_pos hc] at hy
          cases hy
          rw [h2 (by omega) hc]
          exact res_take rfl (hnil _) (by decide) (by decide)
        · rw [if_neg hc] at hy
          cases hy
          obtain ⟨v, rfl, hr⟩ := h3 (by omega) (by omega)
          have hl64 : ∀ i ∈ (freeL (s : Int)).take n.toNat, i < 64 := fun i hi => by
            have := List.mem_of_mem_take hi
            unfold freeL at this
            simp only [List.mem_filter, List.mem_range] at this
            exact this.1
          have hlen : ((freeL (s : Int)).take n.toNat).length ≤ 64 := by
            have h1 := freeL_len s
            have h2 := List.length_take_le n.toNat (freeL (s : Int))
            have h3 := (cntW_le (s : Int)).1
            have h4 : ((freeL (s : Int)).take n.toNat).length ≤ (freeL (s : Int)).length := by rw [List.length_take]; omega
            omega
          obtain ⟨cs, e1, e2⟩ := row_ints hr hl64 hlen (fun k => k < W.heap.size ∧ (k < w.heap.size → I k)) (fun k a b => ⟨b, fun h => absurd h (by omega)⟩)
          have := orL_lt hs _ hl64
          refine res_take e1 e2 ?_ (by decide)
          rw [inKind_iff]; show 0 ≤ ((orL s _ : Nat) : Int) ∧ ((orL s _ : Nat) : Int) ≤ 18446744073709551615
          omega
end Go.Proofs.YtmjobjaajnjgjaaDoor
end

section
namespace Go.Proofs.YtmjobjaajnjgjaaDoor
open Go Go.Co Go.Co.N Go.Proofs Go.RowKit Go.Shelf Go.Lib
attribute [local go_sem] Oper.semAt_some

theorem fz_append2 {P : Program} {w : World} {base : Nat} {t ty e : TypeId} {i : TypeInfo} {z : Value} (ht : P.underlying t = some (.slice e)) (hi : P.info? e = some i) (hz : i.zero = some z)
    {v : Value} {n : Nat} {xs : List Value} (hown : w.ownsRow base e i.size v n xs) (hv : v ≠ .slice none 0 0) {a : Addr} {m c : Nat} {news : List Value} (hl : news.length = m * i.size) (hnews : ∀ j u, news[j]? = some u → w.cell? (a.add j) = some u) (h1 : ∀ u ∈ news, u.oneCell' = true)
    (h63 : n + m ≤ maxLen) (hbytes : (n + m) * i.bytes ≤ 140737488355328) {v' : Value} {w' : World} (hrun : (Builtin.append_ #[t, t] ty #[v, .slice (some a) m c]).run P w = .ok v' w') (b : Addr) : w'.frozen? b = w.frozen? b := by
  by_cases hm : 0 < m
  · exact fz_append ht hi hz hown hl hnews h1 hm h63 hbytes hrun b
  · rcases hown.2 with ⟨rfl, rfl⟩ | ⟨g, cap, cur, rfl, _, hg, hnc, _, hcs, _⟩
    · exact absurd rfl hv
    · have hroom : n + m ≤ cap := by omega
      have hfit : n * i.size + news.length ≤ cur.size := by rw [hl, hcs, ← Nat.add_mul]; exact Nat.mul_le_mul_right _ hroom
      rw [run_append_room (P := P) w t ty e i ht hi g n cap cur hg a m c news hl hnews h1 hroom hfit] at hrun
      cases hrun
      by_cases hb : b.block = g
      · have := setRow_heap w g cur (cur.toList.take (n * i.size) ++ news ++ cur.toList.drop (n * i.size + news.length)).toArray e (0, 0) hg
        unfold World.frozen?
        rw [hb, this, hg]
      · exact frozen_same (setRow_other w g b.block _ hb)
theorem wpListIn_append_fz2 {F : Fence} {k : Nat} {P : Program} (w : World) {ops : Array Oper} {rest : List Oper} {o : Oper} {a : Act} {Q : Exit → Act → World → Prop}
    (hg : o.guard = none) (s x : Operand) (t : TypeId) (hop : o.op = Op.call { callee := Callee.builtin Builtin.append, args := #[s, x], argTypes := #[t, t] })
    (base : Nat) (e : TypeId) (i : TypeInfo) (z : Value) (size bytes : Nat) (h1 : P.underlying t = some (.slice e)) (h2 : P.info? e = some i) (h3 : i.zero = some z) (h4 : i.size = size) (h5 : i.bytes = bytes) (h6 : z.cells.size = size) (h7 : 0 < size)
    (v : Value) (n : Nat) (xs : List Value) (hs : a.eval s = v) (hown : w.ownsRow base e size v n xs) (hv : v ≠ .slice none 0 0) (ad : Addr) (m c : Nat) (news : List Value) (hx : a.eval x = .slice (some ad) m c) (hn : news.length = m * size)
    (hc : ∀ j u, news[j]? = some u → w.cell? (ad.add j) = some u) (h1c : ∀ u ∈ news, u.oneCell' = true) (b1 : n + m ≤ maxLen) (b2 : (n + m) * bytes ≤ 140737488355328) (b3 : base ≤ w.heap.size)
    (hK : ∀ v' w', w'.ownsRow base e size v' (n + m) (xs ++ news) → w.grownBy w' v.ownBlock → (v' = .slice none 0 0 ↔ v = .slice none 0 0 ∧ m = 0) → (∀ b, w'.frozen? b = w.frozen? b) → wpListIn F k P ops Q rest (a.put o.dst v') w') :
    wpListIn F k P ops Q (o :: rest) a w := by
  refine wpListIn_plain hg fun K hK' => ?_
  obtain ⟨v', w', hrun, r1, r2, r3⟩ := run_append_own (P := P) w base t o.type e i z size bytes h1 h2 h3 h4 h5 h6 h7 v n xs hown ad m c news hn hc h1c b1 b2 b3
  subst h4; subst h5
  have hz := fun b => fz_append2 h1 h2 h3 hown hv hn hc h1c b1 b2 hrun b
  unfold Oper.wpIn
  refine ⟨?_, ?_⟩
  · simp [Oper.about, hop, resolve, Target.leads, Sem.run_pure]
  · rw [Oper.semAt_plain F _ _ (by rw [hop]; intro c hc'; cases hc')]
    simp [execOp, hop, resolve, invoke, builtin, hs, hx, hrun, Result.andThen]
    exact hK' _ _ (hK v' w' r1 r2 r3 hz)
set_option maxHeartbeats 2000000 in
set_option maxRecDepth 100000 in
theorem clone_in (ad : Addr) (n c : Nat) (vs : List Value) (w : World) (hn : vs.length = n) (hbig : n * 8 ≤ 140737488355328) (h1 : ∀ u ∈ vs, u.oneCell' = true) (hc : ∀ j u, vs[j]? = some u → w.cell? (ad.add j) = some u) :
    CallsIn Fence.wide 0 Tryd.prog 23 #[.slice (some ad) n c] w fun e w' => ∃ v', e = .returned v' ∧ w'.ownsRow w.heap.size 3 1 v' n vs ∧ Blw w.heap.size w w' := by
  obtain ⟨i0, hi, hz0, hz1, hz2⟩ := info_parts (P := Tryd.prog) (e := 3) (z := .int .i64 0) (size := 1) (bytes := 8) (by kernel_rfl)
  have hmx : Tryd.prog.follows .mixedOrders = true := by kernel_rfl
  have q32 : ∀ (w : World) (a : Option Addr) (n c n' c' : Nat), (binOp .eql 32 (.slice a n c) (.slice none n' c')).run Tryd.prog w = .ok (.bool a.isNone) w := fun w a n c n' c' => Lib.run_eql_slice_nil w _ _ a n c n' c' Tryd.underlying32
  have A : Aside (∀ j u, vs[j]? = some u → w.cell? (ad.add j) = some u) := hc
  clear hc
  refine callsIn_of_wp Tryd.func23 rfl trivial ?_ rfl
  simp only [Tryd.ntmps23, List.size_toArray, List.length_cons, List.length_nil, Nat.reduceAdd, Nat.reduceSub, Array.replicate_succ, Array.replicate_zero, List.push_toArray, List.append_toArray, List.nil_append, List.cons_append]
  gi_wp2_with (gi_at_builtin; refine wpListIn_append_fz2 _ rfl _ _ 32 rfl w.heap.size 3 i0 (.int .i64 0) 1 8 Tryd.underlying32 hi hz0 hz1 hz2 rfl (by decide) _ _ _ rfl (World.ownsRow_made w #[] 0 (Nat.le_refl _) (Nat.zero_le _) rfl) (fun h => (by have h : Value.slice (some ⟨w.heap.size, 0, none⟩) 0 0 = .slice none 0 0 := h; cases h)) ad n c vs rfl ?qc1 ?qc2 ?qc3 ?qc4 ?qc5 ?qc6 ?_)
  case qc1 => omega
  case qc2 => intro j u hj; exact Lib.cell?_alloc_some _ (A.out j u hj)
  case qc3 => exact h1
  case qc4 => unfold maxLen; omega
  case qc5 => omega
  case qc6 => simp
  intro v' w1 hown hgrow hnil hfz
  gi_wp2
  go_ret
  refine ⟨v', rfl, by simpa using hown, ⟨?_, fun a => ?_⟩⟩
  · exact ((Below.refl _ w).alloc (Nat.le_refl _) _).grown hgrow (by simp) (by intro k hk; simp [Value.ownBlock] at hk; omega)
  · exact (hfz a).trans (fz_alloc _ _ (fun _ _ _ h => by cases h; rfl) a)
set_option maxHeartbeats 1000000 in
theorem clone_nil_in (n c : Nat) (w : World) : CallsIn Fence.wide 0 Tryd.prog 23 #[.slice none n c] w fun e w' => e = .returned (.slice none 0 0) ∧ w' = w := by
  have q32 : ∀ (w : World) (a : Option Addr) (n c n' c' : Nat), (binOp .eql 32 (.slice a n c) (.slice none n' c')).run Tryd.prog w = .ok (.bool a.isNone) w := fun w a n c n' c' => Lib.run_eql_slice_nil w _ _ a n c n' c' Tryd.underlying32
  refine callsIn_of_wp Tryd.func23 rfl trivial ?_ rfl
  simp only [Tryd.ntmps23, List.size_toArray, List.length_cons, List.length_nil, Nat.reduceAdd, Nat.reduceSub, Array.replicate_succ, Array.replicate_zero, List.push_toArray, List.append_toArray, List.nil_append, List.cons_append]
  gi_wp2
  go_ret
  exact ⟨rfl, rfl⟩
theorem row_rd {W W2 : World} {im2 : Nat → Prop} {base : Nat} {v : Value} {l : List Int} {css : List (List Value)} (h : W.ownsRow base 3 1 v l.length css.flatten) (hb : l.length * 8 ≤ 140737488355328) (hall : All2 (Rd W2 im2 .i) l css) (im : Nat → Prop) (him : ∀ k, base ≤ k → k < W.heap.size → im k) :
    ∃ cs, v = pk false cs ∧ Rd W im (.list .i) l cs := by
  have hb : List.length l * Ty.bytes .i ≤ top := hb
  rcases h.2 with ⟨rfl, h0⟩ | ⟨g, cap, cur, rfl, hbg, hg, hc, hcm, hsz, htk⟩
  · refine ⟨[.slice none 0 0], rfl, Rd.list.2 ⟨hb, .inl ⟨rfl, ?_⟩⟩⟩
    exact List.length_eq_zero_iff.1 h0
  · refine ⟨[.slice (some ⟨g, 0, none⟩) l.length cap], rfl, Rd.list.2 ⟨hb, .inr ⟨⟨g, 0, none⟩, cap, css, rfl, fun _ => rfl, hc, hcm, hall.mono fun x c hr => Rd.nolist .i x c rfl hr, fun _ => him g hbg (Array.getElem?_eq_some_iff.1 hg).1, ?_⟩⟩⟩
    intro j x hj
    rw [← htk] at hj
    have hj2 : cur.toList[j]? = some x := by
      rw [List.getElem?_take] at hj
      split at hj
      · exact hj
      · cases hj
    have : cur[j]? = some x := by rw [← Array.getElem?_toList]; exact hj2
    simp [World.cell?, hg, this]
theorem ok_slices_Clone : ConOK Tryd.prog 23 c_slices_Clone := by
  refine ⟨FnOK.of Tryd.func23 rfl (by kernel_rfl), ?_, ?_⟩
  · decide
  · intro w I x xs y hg hI hx hxy
    obtain ⟨l, u⟩ := x
    change List Int at l
    match xs, hx with
    | [a], hx =>
      obtain ⟨⟨cs, rfl, r⟩, _⟩ := hx
      have hy : y = (l, ()) := by
        have : some (l, ()) = some y := hxy
        exact (Option.some.inj this).symm
      subst hy
      obtain ⟨hb, r⟩ := Rd.list.1 r
      have hb : l.length * 8 ≤ 140737488355328 := hb
      rcases r with ⟨rfl, rfl⟩ | ⟨a, cap, css, rfl, hs, hle, hcm, hall, him, hc⟩
      · refine Calls.mono (callsIn_wide.1 (clone_nil_in 0 0 w)) ?_
        rintro e W ⟨rfl, rfl⟩
        exact ⟨_, rfl, Blw.refl _ _, [.slice none 0 0], rfl, Rd.list.2 ⟨by simp, .inl ⟨rfl, rfl⟩⟩⟩
      · have hfl := flatten_len (n := 1) (show ∀ c ∈ css, c.length = 1 from hall.lens)
        have hlen : css.flatten.length = l.length := by rw [hfl, hall.length]; omega
        have hcells : ∀ j u, css.flatten[j]? = some u → w.cell? (a.add j) = some u := fun j u hu => by
          have hne : l ≠ [] := fun h => by
            have := (List.getElem?_eq_some_iff.1 hu).1
            rw [hlen, h] at this
            simp at this
          have h2 := hc j u hu
          have h3 := hs hne
          obtain ⟨bk, of, sp⟩ := a
          simp only at h3
          subst h3
          rw [Addr.add_lit]; exact h2
        refine Calls.mono (callsIn_wide.1 (clone_in a l.length cap css.flatten w hlen hb hall.ones hcells)) ?_
        rintro e W ⟨v', rfl, hown, hblw⟩
        obtain ⟨cs', h1, h2⟩ := row_rd hown hb hall (fun k => k < W.heap.size ∧ (k < w.heap.size → I k)) (fun k h1 h2 => ⟨h2, fun h3 => absurd h3 (by omega)⟩)
        exact ⟨v', rfl, hblw, cs', h1, h2⟩
end Go.Proofs.YtmjobjaajnjgjaaDoor
end

section
namespace Go.Proofs.YtmjobjaajnjgjaaDoor
open Go Go.Co Go.Co.N Go.Proofs
noncomputable def L_key_Good : List (Nat × LD) := []
noncomputable def Ls_key_Good : List (Nat × List (Nat × LD)) := []
noncomputable def B_key_Good : Bodies := []
theorem run_key_Good (x : denL [(.st .key)]) : run [] L_key_Good Ls_key_Good B_key_Good Tryd.f101 [(.st .key)] [.bool] x = g_key_Good x := by kernel_rfl
theorem ok_key_Good : ConOK Tryd.prog 101 c_key_Good := con_ok (ConsOK.nil) L_key_Good Ls_key_Good (B := B_key_Good) (BodiesOK.nil) Tryd.func101 rfl fun x y hf h => (run_key_Good x).trans (eq_key_Good x y hf h)
noncomputable def L_key_Ahead : List (Nat × LD) := []
noncomputable def Ls_key_Ahead : List (Nat × List (Nat × LD)) := []
noncomputable def B_key_Ahead : Bodies := []
theorem run_key_Ahead (x : denL [(.st .key), .i]) : run [(101, c_key_Good)] L_key_Ahead Ls_key_Ahead B_key_Ahead Tryd.f98 [(.st .key), .i] [(.st .key), .i] x = g_key_Ahead x := by kernel_rfl
theorem ok_key_Ahead : ConOK Tryd.prog 98 c_key_Ahead := con_ok (ConsOK.cons ok_key_Good (ConsOK.nil)) L_key_Ahead Ls_key_Ahead (B := B_key_Ahead) (BodiesOK.nil) Tryd.func98 rfl fun x y hf h => (run_key_Ahead x).trans (eq_key_Ahead x y hf h)
noncomputable def L_key_Seal : List (Nat × LD) := []
noncomputable def Ls_key_Seal : List (Nat × List (Nat × LD)) := []
noncomputable def B_key_Seal : Bodies := []
theorem run_key_Seal (x : denL [(.st .key), (.st .key)]) : run [(101, c_key_Good)] L_key_Seal Ls_key_Seal B_key_Seal Tryd.f74 [(.st .key), (.st .key)] [(.st .box), .i] x = g_key_Seal x := by kernel_rfl
theorem ok_key_Seal : ConOK Tryd.prog 74 c_key_Seal := con_ok (ConsOK.cons ok_key_Good (ConsOK.nil)) L_key_Seal Ls_key_Seal (B := B_key_Seal) (BodiesOK.nil) Tryd.func74 rfl fun x y hf h => (run_key_Seal x).trans (eq_key_Seal x y hf h)
noncomputable def L_ratchet_Check : List (Nat × LD) := [(3, ⟨⟨[(3, .mp 1), (7, .hole (.arr 21 (.st .key))), (8, .hole .i)], [], [(1, .i, .i)]⟩, [(.ret, ⟨[(2, .hole .i)], [], []⟩), (.exit 0, ⟨[], [], []⟩)], 11, []⟩)]
noncomputable def Ls_ratchet_Check : List (Nat × List (Nat × LD)) := []
noncomputable def B_ratchet_Check : Bodies := []
theorem run_ratchet_Check (x : denL [(.arr 21 (.st .key))]) : run [(101, c_key_Good)] L_ratchet_Check Ls_ratchet_Check B_ratchet_Check Tryd.f91 [(.arr 21 (.st .key))] [.i] x = g_ratchet_Check x := by kernel_rfl
theorem ok_ratchet_Check : ConOK Tryd.prog 91 c_ratchet_Check := con_ok (ConsOK.cons ok_key_Good (ConsOK.nil)) L_ratchet_Check Ls_ratchet_Check (B := B_ratchet_Check) (BodiesOK.nil) Tryd.func91 rfl fun x y hf h => (run_ratchet_Check x).trans (eq_ratchet_Check x y hf h)
noncomputable def L_ratchet_free : List (Nat × LD) := [(6, ⟨⟨[(1, .hole .i), (2, .hole .i), (19, .hole (.arr 21 (.st .key))), (20, .hole .i)], [], []⟩, [(.ret, ⟨[(6, .hole .bool)], [], []⟩), (.exit 0, ⟨[], [], []⟩)], 11, []⟩)]
noncomputable def Ls_ratchet_free : List (Nat × List (Nat × LD)) := []
noncomputable def B_ratchet_free : Bodies := []
theorem run_ratchet_free (x : denL [(.arr 21 (.st .key)), .i, .i]) : run [] L_ratchet_free Ls_ratchet_free B_ratchet_free Tryd.f97 [(.arr 21 (.st .key)), .i, .i] [.bool] x = g_ratchet_free x := by kernel_rfl
theorem ok_ratchet_free : ConOK Tryd.prog 97 c_ratchet_free := con_ok (ConsOK.nil) L_ratchet_free Ls_ratchet_free (B := B_ratchet_free) (BodiesOK.nil) Tryd.func97 rfl fun x y hf h => (run_ratchet_free x).trans (eq_ratchet_free x y hf h)
noncomputable def L_ratchet_LeafAt : List (Nat × LD) := []
noncomputable def Ls_ratchet_LeafAt : List (Nat × List (Nat × LD)) := []
noncomputable def B_ratchet_LeafAt : Bodies := []
theorem run_ratchet_LeafAt (x : denL [(.st .entry), .i]) : run [(98, c_key_Ahead)] L_ratchet_LeafAt Ls_ratchet_LeafAt B_ratchet_LeafAt Tryd.f103 [(.st .entry), .i] [(.st .key), .i] x = g_ratchet_LeafAt x := by kernel_rfl
theorem ok_ratchet_LeafAt : ConOK Tryd.prog 103 c_ratchet_LeafAt := con_ok (ConsOK.cons ok_key_Ahead (ConsOK.nil)) L_ratchet_LeafAt Ls_ratchet_LeafAt (B := B_ratchet_LeafAt) (BodiesOK.nil) Tryd.func103 rfl fun x y hf h => (run_ratchet_LeafAt x).trans (eq_ratchet_LeafAt x y hf h)
noncomputable def L_bits_OnesCount32 : List (Nat × LD) := []
noncomputable def Ls_bits_OnesCount32 : List (Nat × List (Nat × LD)) := []
noncomputable def B_bits_OnesCount32 : Bodies := []
theorem run_bits_OnesCount32 (x : denL [(.int .u32)]) : run [] L_bits_OnesCount32 Ls_bits_OnesCount32 B_bits_OnesCount32 Tryd.f70 [(.int .u32)] [.i] x = g_bits_OnesCount32 x := by kernel_rfl
theorem ok_bits_OnesCount32 : ConOK Tryd.prog 70 c_bits_OnesCount32 := con_ok (ConsOK.nil) L_bits_OnesCount32 Ls_bits_OnesCount32 (B := B_bits_OnesCount32) (BodiesOK.nil) Tryd.func70 rfl fun x y hf h => (run_bits_OnesCount32 x).trans (eq_bits_OnesCount32 x y hf h)
noncomputable def L_ratchet_Turn : List (Nat × LD) := [(8, ⟨⟨[(1, .hole (.int .u32)), (2, .hole .i), (3, .ptr 0 []), (6, .ptr 1 []), (31, .hole .i)], [(0, (.arr 21 (.st .key)), .hole (.arr 21 (.st .key))), (1, (.arr 21 (.st .key)), .hole (.arr 21 (.st .key)))], []⟩, [(.ret, ⟨[(6, .ptr 1 []), (7, .hole .i), (8, .hole .i)], [(1, (.arr 21 (.st .key)), .hole (.arr 21 (.st .key)))], []⟩), (.exit 1, ⟨[(2, .hole .i), (3, .ptr 0 []), (6, .ptr 1 [])], [(0, (.arr 21 (.st .key)), .hole (.arr 21 (.st .key))), (1, (.arr 21 (.st .key)), .hole (.arr 21 (.st .key)))], []⟩)], 11, []⟩)]
noncomputable def Ls_ratchet_Turn : List (Nat × List (Nat × LD)) := []
noncomputable def B_ratchet_Turn : Bodies := []
theorem run_ratchet_Turn (x : denL [(.arr 21 (.st .key)), (.int .u32), .i]) : run [(91, c_ratchet_Check), (70, c_bits_OnesCount32), (97, c_ratchet_free), (98, c_key_Ahead)] L_ratchet_Turn Ls_ratchet_Turn B_ratchet_Turn Tryd.f71 [(.arr 21 (.st .key)), (.int .u32), .i] [(.arr 21 (.st .key)), .i, .i] x = g_ratchet_Turn x := by kernel_rfl
theorem ok_ratchet_Turn : ConOK Tryd.prog 71 c_ratchet_Turn := con_ok (ConsOK.cons ok_ratchet_Check (ConsOK.cons ok_bits_OnesCount32 (ConsOK.cons ok_ratchet_free (ConsOK.cons ok_key_Ahead (ConsOK.nil))))) L_ratchet_Turn Ls_ratchet_Turn (B := B_ratchet_Turn) (BodiesOK.nil) Tryd.func71 rfl fun x y hf h => (run_ratchet_Turn x).trans (eq_ratchet_Turn x y hf h)
noncomputable def L_shape_first : List (Nat × LD) := []
noncomputable def Ls_shape_first : List (Nat × List (Nat × LD)) := []
noncomputable def B_shape_first : Bodies := []
theorem run_shape_first (x : denL [.i]) : run [] L_shape_first Ls_shape_first B_shape_first Tryd.f106 [.i] [.i] x = g_shape_first x := by kernel_rfl
theorem ok_shape_first : ConOK Tryd.prog 106 c_shape_first := con_ok (ConsOK.nil) L_shape_first Ls_shape_first (B := B_shape_first) (BodiesOK.nil) Tryd.func106 rfl fun x y hf h => (run_shape_first x).trans (eq_shape_first x y hf h)
noncomputable def L_shape_Level : List (Nat × LD) := [(5, ⟨⟨[(0, .hole .i), (3, .hole .i)], [], []⟩, [(.ret, ⟨[(2, .hole .i)], [], []⟩)], 10, []⟩)]
noncomputable def Ls_shape_Level : List (Nat × List (Nat × LD)) := []
noncomputable def B_shape_Level : Bodies := []
theorem run_shape_Level (x : denL [.i]) : run [(106, c_shape_first)] L_shape_Level Ls_shape_Level B_shape_Level Tryd.f104 [.i] [.i] x = g_shape_Level x := by kernel_rfl
theorem ok_shape_Level : ConOK Tryd.prog 104 c_shape_Level := con_ok (ConsOK.cons ok_shape_first (ConsOK.nil)) L_shape_Level Ls_shape_Level (B := B_shape_Level) (BodiesOK.nil) Tryd.func104 rfl fun x y hf h => (run_shape_Level x).trans (eq_shape_Level x y hf h)
noncomputable def L_shape_span : List (Nat × LD) := []
noncomputable def Ls_shape_span : List (Nat × List (Nat × LD)) := []
noncomputable def B_shape_span : Bodies := []
theorem run_shape_span (x : denL [.i]) : run [(104, c_shape_Level), (106, c_shape_first)] L_shape_span Ls_shape_span B_shape_span Tryd.f105 [.i] [.i, .i] x = g_shape_span x := by kernel_rfl
theorem ok_shape_span : ConOK Tryd.prog 105 c_shape_span := con_ok (ConsOK.cons ok_shape_Level (ConsOK.cons ok_shape_first (ConsOK.nil))) L_shape_span Ls_shape_span (B := B_shape_span) (BodiesOK.nil) Tryd.func105 rfl fun x y hf h => (run_shape_span x).trans (eq_shape_span x y hf h)
noncomputable def L_shape_Mask : List (Nat × LD) := []
noncomputable def Ls_shape_Mask : List (Nat × List (Nat × LD)) := []
noncomputable def B_shape_Mask : Bodies := []
theorem run_shape_Mask (x : denL [.i]) : run [(104, c_shape_Level), (105, c_shape_span)] L_shape_Mask Ls_shape_Mask B_shape_Mask Tryd.f78 [.i] [(.int .u64)] x = g_shape_Mask x := by kernel_rfl
theorem ok_shape_Mask : ConOK Tryd.prog 78 c_shape_Mask := con_ok (ConsOK.cons ok_shape_Level (ConsOK.cons ok_shape_span (ConsOK.nil))) L_shape_Mask Ls_shape_Mask (B := B_shape_Mask) (BodiesOK.nil) Tryd.func78 rfl fun x y hf h => (run_shape_Mask x).trans (eq_shape_Mask x y hf h)
noncomputable def L_shape_Slot : List (Nat × LD) := []
noncomputable def Ls_shape_Slot : List (Nat × List (Nat × LD)) := []
noncomputable def B_shape_Slot : Bodies := []
theorem run_shape_Slot (x : denL [.i]) : run [] L_shape_Slot Ls_shape_Slot B_shape_Slot Tryd.f102 [.i] [.i] x = g_shape_Slot x := by kernel_rfl
theorem ok_shape_Slot : ConOK Tryd.prog 102 c_shape_Slot := con_ok (ConsOK.nil) L_shape_Slot Ls_shape_Slot (B := B_shape_Slot) (BodiesOK.nil) Tryd.func102 rfl fun x y hf h => (run_shape_Slot x).trans (eq_shape_Slot x y hf h)
noncomputable def L_shape_Child : List (Nat × LD) := []
noncomputable def Ls_shape_Child : List (Nat × List (Nat × LD)) := []
noncomputable def B_shape_Child : Bodies := []
theorem run_shape_Child (x : denL [.i, .i]) : run [] L_shape_Child Ls_shape_Child B_shape_Child Tryd.f77 [.i, .i] [.i] x = g_shape_Child x := by kernel_rfl
theorem ok_shape_Child : ConOK Tryd.prog 77 c_shape_Child := con_ok (ConsOK.nil) L_shape_Child Ls_shape_Child (B := B_shape_Child) (BodiesOK.nil) Tryd.func77 rfl fun x y hf h => (run_shape_Child x).trans (eq_shape_Child x y hf h)
noncomputable def L_shape_Leaf : List (Nat × LD) := []
noncomputable def Ls_shape_Leaf : List (Nat × List (Nat × LD)) := []
noncomputable def B_shape_Leaf : Bodies := []
theorem run_shape_Leaf (x : denL [.i]) : run [] L_shape_Leaf Ls_shape_Leaf B_shape_Leaf Tryd.f80 [.i] [.i] x = g_shape_Leaf x := by kernel_rfl
theorem ok_shape_Leaf : ConOK Tryd.prog 80 c_shape_Leaf := con_ok (ConsOK.nil) L_shape_Leaf Ls_shape_Leaf (B := B_shape_Leaf) (BodiesOK.nil) Tryd.func80 rfl fun x y hf h => (run_shape_Leaf x).trans (eq_shape_Leaf x y hf h)
noncomputable def L_shape_Path : List (Nat × LD) := [(5, ⟨⟨[(0, .hole .i), (2, .ptr 0 []), (4, .ptr 1 []), (11, .hole .i)], [(0, (.arr 3 .i), .hole (.arr 3 .i)), (1, (.arr 3 .i), .hole (.arr 3 .i))], []⟩, [(.exit 0, ⟨[(2, .ptr 0 []), (4, .ptr 1 [])], [(0, (.arr 3 .i), .hole (.arr 3 .i)), (1, (.arr 3 .i), .hole (.arr 3 .i))], []⟩)], 10, []⟩)]
noncomputable def Ls_shape_Path : List (Nat × List (Nat × LD)) := []
noncomputable def B_shape_Path : Bodies := []
theorem run_shape_Path (x : denL [.i]) : run [(80, c_shape_Leaf), (106, c_shape_first)] L_shape_Path Ls_shape_Path B_shape_Path Tryd.f79 [.i] [(.arr 3 .i), .bool] x = g_shape_Path x := by kernel_rfl
theorem ok_shape_Path : ConOK Tryd.prog 79 c_shape_Path := con_ok (ConsOK.cons ok_shape_Leaf (ConsOK.cons ok_shape_first (ConsOK.nil))) L_shape_Path Ls_shape_Path (B := B_shape_Path) (BodiesOK.nil) Tryd.func79 rfl fun x y hf h => (run_shape_Path x).trans (eq_shape_Path x y hf h)
noncomputable def L_shape_Above : List (Nat × LD) := [(3, ⟨⟨[(0, .hole (.int .u64)), (3, .hole (.int .u32)), (5, .hole .i)], [], []⟩, [(.exit 0, ⟨[(3, .hole (.int .u32))], [], []⟩)], 10, []⟩)]
noncomputable def Ls_shape_Above : List (Nat × List (Nat × LD)) := []
noncomputable def B_shape_Above : Bodies := []
theorem run_shape_Above (x : denL [(.int .u64)]) : run [(78, c_shape_Mask)] L_shape_Above Ls_shape_Above B_shape_Above Tryd.f96 [(.int .u64)] [(.int .u32)] x = g_shape_Above x := by kernel_rfl
theorem ok_shape_Above : ConOK Tryd.prog 96 c_shape_Above := con_ok (ConsOK.cons ok_shape_Mask (ConsOK.nil)) L_shape_Above Ls_shape_Above (B := B_shape_Above) (BodiesOK.nil) Tryd.func96 rfl fun x y hf h => (run_shape_Above x).trans (eq_shape_Above x y hf h)
noncomputable def L_roster_right : List (Nat × LD) := []
noncomputable def Ls_roster_right : List (Nat × List (Nat × LD)) := []
noncomputable def B_roster_right : Bodies := []
theorem run_roster_right (x : denL [(.st .entry)]) : run [] L_roster_right Ls_roster_right B_roster_right Tryd.f113 [(.st .entry)] [.bool] x = g_roster_right x := by kernel_rfl
theorem ok_roster_right : ConOK Tryd.prog 113 c_roster_right := con_ok (ConsOK.nil) L_roster_right Ls_roster_right (B := B_roster_right) (BodiesOK.nil) Tryd.func113 rfl fun x y hf h => (run_roster_right x).trans (eq_roster_right x y hf h)
noncomputable def L_roster_Check : List (Nat × LD) := [(3, ⟨⟨[(3, .mp 1), (4, .mp 2), (9, .hole (.arr 64 (.st .entry))), (10, .hole .i)], [], [(1, .i, .i), (2, .i, .i)]⟩, [(.ret, ⟨[(2, .hole .i)], [], []⟩), (.exit 0, ⟨[], [], []⟩)], 11, []⟩)]
noncomputable def Ls_roster_Check : List (Nat × List (Nat × LD)) := []
noncomputable def B_roster_Check : Bodies := []
theorem run_roster_Check (x : denL [(.arr 64 (.st .entry))]) : run [(113, c_roster_right)] L_roster_Check Ls_roster_Check B_roster_Check Tryd.f92 [(.arr 64 (.st .entry))] [.i] x = g_roster_Check x := by kernel_rfl
theorem ok_roster_Check : ConOK Tryd.prog 92 c_roster_Check := con_ok (ConsOK.cons ok_roster_right (ConsOK.nil)) L_roster_Check Ls_roster_Check (B := B_roster_Check) (BodiesOK.nil) Tryd.func92 rfl fun x y hf h => (run_roster_Check x).trans (eq_roster_Check x y hf h)
noncomputable def L_roster_Find : List (Nat × LD) := []
noncomputable def Ls_roster_Find : List (Nat × List (Nat × LD)) := [(114, [(2, ⟨⟨[(0, .asl 0 []), (1, .fn 115 [1]), (7, .hole .i), (8, .hole .i)], [(0, (.arr 64 (.st .entry)), .hole (.arr 64 (.st .entry))), (1, .i, .hole .i)], []⟩, [(.ret, ⟨[(4, .hole .i)], [(0, (.arr 64 (.st .entry)), .hole (.arr 64 (.st .entry))), (1, .i, .hole .i)], []⟩), (.exit 0, ⟨[], [(0, (.arr 64 (.st .entry)), .hole (.arr 64 (.st .entry))), (1, .i, .hole .i)], []⟩)], 10, []⟩)])]
noncomputable def B_roster_Find : Bodies := [bodyLine 115 Tryd.f115, bodyLine 114 Tryd.f114]
theorem run_roster_Find (x : denL [(.arr 64 (.st .entry)), .i]) : run [] L_roster_Find Ls_roster_Find B_roster_Find Tryd.f94 [(.arr 64 (.st .entry)), .i] [.i] x = g_roster_Find x := by kernel_rfl
theorem ok_roster_Find : ConOK Tryd.prog 94 c_roster_Find := con_ok (ConsOK.nil) L_roster_Find Ls_roster_Find (B := B_roster_Find) (BodiesOK.cons Tryd.func115 rfl (BodiesOK.cons Tryd.func114 rfl (BodiesOK.nil))) Tryd.func94 rfl fun x y hf h => (run_roster_Find x).trans (eq_roster_Find x y hf h)
noncomputable def L_roster_Taken : List (Nat × LD) := [(3, ⟨⟨[(3, .hole (.int .u64)), (6, .hole (.arr 64 (.st .entry))), (7, .hole .i)], [], []⟩, [(.exit 0, ⟨[(3, .hole (.int .u64))], [], []⟩)], 11, []⟩)]
noncomputable def Ls_roster_Taken : List (Nat × List (Nat × LD)) := []
noncomputable def B_roster_Taken : Bodies := []
theorem run_roster_Taken (x : denL [(.arr 64 (.st .entry))]) : run [] L_roster_Taken Ls_roster_Taken B_roster_Taken Tryd.f76 [(.arr 64 (.st .entry))] [(.int .u64)] x = g_roster_Taken x := by kernel_rfl
theorem ok_roster_Taken : ConOK Tryd.prog 76 c_roster_Taken := con_ok (ConsOK.nil) L_roster_Taken Ls_roster_Taken (B := B_roster_Taken) (BodiesOK.nil) Tryd.func76 rfl fun x y hf h => (run_roster_Taken x).trans (eq_roster_Taken x y hf h)
noncomputable def L_ref11_Start : List (Nat × LD) := [(3, ⟨⟨[(0, .ptr 0 []), (1, .ptr 1 []), (2, .hole .i)], [(0, (.st .tree), .hole (.st .tree)), (1, (.st .tree), .hole (.st .tree))], []⟩, [(.exit 0, ⟨[(0, .ptr 0 []), (1, .ptr 1 [])], [(0, (.st .tree), .hole (.st .tree)), (1, (.st .tree), .hole (.st .tree))], []⟩)], 10, []⟩)]
noncomputable def Ls_ref11_Start : List (Nat × List (Nat × LD)) := []
noncomputable def B_ref11_Start : Bodies := []
theorem run_ref11_Start (x : denL []) : run [] L_ref11_Start Ls_ref11_Start B_ref11_Start Tryd.f21 [] [(.st .tree)] x = g_ref11_Start x := by kernel_rfl
theorem ok_ref11_Start : ConOK Tryd.prog 21 c_ref11_Start := con_ok (ConsOK.nil) L_ref11_Start Ls_ref11_Start (B := B_ref11_Start) (BodiesOK.nil) Tryd.func21 rfl fun x y hf h => (run_ref11_Start x).trans (eq_ref11_Start x y hf h)
noncomputable def L_keytree_Check : List (Nat × LD) := [(7, ⟨⟨[(1, .ptr 0 []), (3, .mp 1), (38, .hole (.arr 21 (.st .key))), (39, .hole .i)], [(0, (.st .tree), .hole (.st .tree))], [(1, .i, .i)]⟩, [(.ret, ⟨[(2, .hole .i)], [], []⟩), (.exit 0, ⟨[(1, .ptr 0 []), (3, .mp 1)], [(0, (.st .tree), .hole (.st .tree))], [(1, .i, .i)]⟩)], 11, []⟩), (14, ⟨⟨[(1, .ptr 0 []), (3, .mp 1), (61, .hole (.arr 64 (.st .entry))), (62, .hole .i)], [(0, (.st .tree), .hole (.st .tree))], [(1, .i, .i)]⟩, [(.ret, ⟨[(2, .hole .i)], [], []⟩), (.exit 2, ⟨[], [], []⟩)], 11, []⟩)]
noncomputable def Ls_keytree_Check : List (Nat × List (Nat × LD)) := []
noncomputable def B_keytree_Check : Bodies := []
theorem run_keytree_Check (x : denL [(.st .tree)]) : run [(91, c_ratchet_Check), (92, c_roster_Check)] L_keytree_Check Ls_keytree_Check B_keytree_Check Tryd.f66 [(.st .tree)] [.i] x = g_keytree_Check x := by kernel_rfl
theorem ok_keytree_Check : ConOK Tryd.prog 66 c_keytree_Check := con_ok (ConsOK.cons ok_ratchet_Check (ConsOK.cons ok_roster_Check (ConsOK.nil))) L_keytree_Check Ls_keytree_Check (B := B_keytree_Check) (BodiesOK.nil) Tryd.func66 rfl fun x y hf h => (run_keytree_Check x).trans (eq_keytree_Check x y hf h)
noncomputable def L_plan_Replaced : List (Nat × LD) := [(3, ⟨⟨[(3, .hole (.int .u64)), (6, .hole (.list (.st .seat))), (7, .hole .i), (8, .hole .i)], [], []⟩, [(.exit 0, ⟨[(3, .hole (.int .u64))], [], []⟩)], 11, []⟩)]
noncomputable def Ls_plan_Replaced : List (Nat × List (Nat × LD)) := []
noncomputable def B_plan_Replaced : Bodies := []
theorem run_plan_Replaced (x : denL [(.list (.st .seat))]) : run [(80, c_shape_Leaf), (78, c_shape_Mask), (96, c_shape_Above)] L_plan_Replaced Ls_plan_Replaced B_plan_Replaced Tryd.f68 [(.list (.st .seat))] [(.int .u32)] x = g_plan_Replaced x := by kernel_rfl
theorem ok_plan_Replaced : ConOK Tryd.prog 68 c_plan_Replaced := con_ok (ConsOK.cons ok_shape_Leaf (ConsOK.cons ok_shape_Mask (ConsOK.cons ok_shape_Above (ConsOK.nil)))) L_plan_Replaced Ls_plan_Replaced (B := B_plan_Replaced) (BodiesOK.nil) Tryd.func68 rfl fun x y hf h => (run_plan_Replaced x).trans (eq_plan_Replaced x y hf h)
noncomputable def L_bits_OnesCount64 : List (Nat × LD) := []
noncomputable def Ls_bits_OnesCount64 : List (Nat × List (Nat × LD)) := []
noncomputable def B_bits_OnesCount64 : Bodies := []
theorem run_bits_OnesCount64 (x : denL [(.int .u64)]) : run [] L_bits_OnesCount64 Ls_bits_OnesCount64 B_bits_OnesCount64 Tryd.f116 [(.int .u64)] [.i] x = g_bits_OnesCount64 x := by kernel_rfl
theorem ok_bits_OnesCount64 : ConOK Tryd.prog 116 c_bits_OnesCount64 := con_ok (ConsOK.nil) L_bits_OnesCount64 Ls_bits_OnesCount64 (B := B_bits_OnesCount64) (BodiesOK.nil) Tryd.func116 rfl fun x y hf h => (run_bits_OnesCount64 x).trans (eq_bits_OnesCount64 x y hf h)
noncomputable def L_seats_Count : List (Nat × LD) := []
noncomputable def Ls_seats_Count : List (Nat × List (Nat × LD)) := []
noncomputable def B_seats_Count : Bodies := []
theorem run_seats_Count (x : denL [(.int .u64)]) : run [(116, c_bits_OnesCount64)] L_seats_Count Ls_seats_Count B_seats_Count Tryd.f95 [(.int .u64)] [.i] x = g_seats_Count x := by kernel_rfl
theorem ok_seats_Count : ConOK Tryd.prog 95 c_seats_Count := con_ok (ConsOK.cons ok_bits_OnesCount64 (ConsOK.nil)) L_seats_Count Ls_seats_Count (B := B_seats_Count) (BodiesOK.nil) Tryd.func95 rfl fun x y hf h => (run_seats_Count x).trans (eq_seats_Count x y hf h)
noncomputable def L_seats_bit : List (Nat × LD) := []
noncomputable def Ls_seats_bit : List (Nat × List (Nat × LD)) := []
noncomputable def B_seats_bit : Bodies := []
theorem run_seats_bit (x : denL [.i]) : run [] L_seats_bit Ls_seats_bit B_seats_bit Tryd.f120 [.i] [(.int .u64)] x = g_seats_bit x := by kernel_rfl
theorem ok_seats_bit : ConOK Tryd.prog 120 c_seats_bit := con_ok (ConsOK.nil) L_seats_bit Ls_seats_bit (B := B_seats_bit) (BodiesOK.nil) Tryd.func120 rfl fun x y hf h => (run_seats_bit x).trans (eq_seats_bit x y hf h)
noncomputable def L_ref09_Same : List (Nat × LD) := [(4, ⟨⟨[(0, .hole (.list (.st .seat))), (1, .hole (.list (.st .seat))), (12, .hole .i), (13, .hole .i)], [], []⟩, [(.ret, ⟨[(4, .hole .bool)], [], []⟩), (.exit 0, ⟨[], [], []⟩)], 10, []⟩)]
noncomputable def Ls_ref09_Same : List (Nat × List (Nat × LD)) := []
noncomputable def B_ref09_Same : Bodies := []
theorem run_ref09_Same (x : denL [(.list (.st .seat)), (.list (.st .seat))]) : run [] L_ref09_Same Ls_ref09_Same B_ref09_Same Tryd.f25 [(.list (.st .seat)), (.list (.st .seat))] [.bool] x = g_ref09_Same x := by kernel_rfl
theorem ok_ref09_Same : ConOK Tryd.prog 25 c_ref09_Same := con_ok (ConsOK.nil) L_ref09_Same Ls_ref09_Same (B := B_ref09_Same) (BodiesOK.nil) Tryd.func25 rfl fun x y hf h => (run_ref09_Same x).trans (eq_ref09_Same x y hf h)
noncomputable def L_ref08_Same : List (Nat × LD) := [(4, ⟨⟨[(0, .hole (.list .i)), (1, .hole (.list .i)), (12, .hole .i), (13, .hole .i)], [], []⟩, [(.ret, ⟨[(4, .hole .bool)], [], []⟩), (.exit 0, ⟨[], [], []⟩)], 10, []⟩)]
noncomputable def Ls_ref08_Same : List (Nat × List (Nat × LD)) := []
noncomputable def B_ref08_Same : Bodies := []
theorem run_ref08_Same (x : denL [(.list .i), (.list .i)]) : run [] L_ref08_Same Ls_ref08_Same B_ref08_Same Tryd.f24 [(.list .i), (.list .i)] [.bool] x = g_ref08_Same x := by kernel_rfl
theorem ok_ref08_Same : ConOK Tryd.prog 24 c_ref08_Same := con_ok (ConsOK.nil) L_ref08_Same Ls_ref08_Same (B := B_ref08_Same) (BodiesOK.nil) Tryd.func24 rfl fun x y hf h => (run_ref08_Same x).trans (eq_ref08_Same x y hf h)
noncomputable def L_plan_nodeKey : List (Nat × LD) := []
noncomputable def Ls_plan_nodeKey : List (Nat × List (Nat × LD)) := []
noncomputable def B_plan_nodeKey : Bodies := []
theorem run_plan_nodeKey (x : denL [(.st .tree), .i]) : run [(102, c_shape_Slot), (103, c_ratchet_LeafAt)] L_plan_nodeKey Ls_plan_nodeKey B_plan_nodeKey Tryd.f75 [(.st .tree), .i] [(.st .key)] x = g_plan_nodeKey x := by kernel_rfl
theorem ok_plan_nodeKey : ConOK Tryd.prog 75 c_plan_nodeKey := con_ok (ConsOK.cons ok_shape_Slot (ConsOK.cons ok_ratchet_LeafAt (ConsOK.nil))) L_plan_nodeKey Ls_plan_nodeKey (B := B_plan_nodeKey) (BodiesOK.nil) Tryd.func75 rfl fun x y hf h => (run_plan_nodeKey x).trans (eq_plan_nodeKey x y hf h)
noncomputable def L_plan_leavers : List (Nat × LD) := [(3, ⟨⟨[(2, .ptr 0 []), (5, .row (.st .seat)), (8, .hole (.list .i)), (9, .hole .i), (10, .hole .i)], [(0, (.arr 64 (.st .entry)), .hole (.arr 64 (.st .entry)))], []⟩, [(.exit 0, ⟨[(5, .row (.st .seat))], [], []⟩)], 13, []⟩)]
noncomputable def Ls_plan_leavers : List (Nat × List (Nat × LD)) := []
noncomputable def B_plan_leavers : Bodies := []
theorem run_plan_leavers (x : denL [(.arr 64 (.st .entry)), (.list .i)]) : run [(94, c_roster_Find)] L_plan_leavers Ls_plan_leavers B_plan_leavers Tryd.f69 [(.arr 64 (.st .entry)), (.list .i)] [(.list (.st .seat))] x = g_plan_leavers x := by kernel_rfl
theorem ok_plan_leavers : ConOK Tryd.prog 69 c_plan_leavers := con_ok (ConsOK.cons ok_roster_Find (ConsOK.nil)) L_plan_leavers Ls_plan_leavers (B := B_plan_leavers) (BodiesOK.nil) Tryd.func69 rfl fun x y hf h => (run_plan_leavers x).trans (eq_plan_leavers x y hf h)
noncomputable def L_roster_names : List (Nat × LD) := []
noncomputable def Ls_roster_names : List (Nat × List (Nat × LD)) := [(114, [(2, ⟨⟨[(0, .asl 0 []), (1, .fn 118 [1, 2]), (7, .hole .i), (8, .hole .i)], [(0, (.arr 64 (.st .entry)), .hole (.arr 64 (.st .entry))), (1, .i, .hole .i), (2, .i, .hole .i)], []⟩, [(.ret, ⟨[(4, .hole .i)], [(0, (.arr 64 (.st .entry)), .hole (.arr 64 (.st .entry))), (1, .i, .hole .i), (2, .i, .hole .i)], []⟩), (.exit 0, ⟨[], [(0, (.arr 64 (.st .entry)), .hole (.arr 64 (.st .entry))), (1, .i, .hole .i), (2, .i, .hole .i)], []⟩)], 10, []⟩)])]
noncomputable def B_roster_names : Bodies := [bodyLine 118 Tryd.f118, bodyLine 117 Tryd.f117, bodyLine 114 Tryd.f114]
theorem run_roster_names (x : denL [(.arr 64 (.st .entry)), .i, .i]) : run [] L_roster_names Ls_roster_names B_roster_names Tryd.f99 [(.arr 64 (.st .entry)), .i, .i] [.bool] x = g_roster_names x := by kernel_rfl
theorem ok_roster_names : ConOK Tryd.prog 99 c_roster_names := con_ok (ConsOK.nil) L_roster_names Ls_roster_names (B := B_roster_names) (BodiesOK.cons Tryd.func118 rfl (BodiesOK.cons Tryd.func117 rfl (BodiesOK.cons Tryd.func114 rfl (BodiesOK.nil)))) Tryd.func99 rfl fun x y hf h => (run_roster_names x).trans (eq_roster_names x y hf h)
noncomputable def L_roster_Fits : List (Nat × LD) := []
noncomputable def Ls_roster_Fits : List (Nat × List (Nat × LD)) := [(93, [(2, ⟨⟨[(1, .hole .bool), (2, .hole .i), (3, .ptr 3 []), (4, .ptr 0 []), (11, .hole (.list .i)), (12, .hole .i), (13, .hole .i)], [(0, (.arr 64 (.st .entry)), .hole (.arr 64 (.st .entry))), (1, (.st .batch), .hole (.st .batch)), (3, .bool, .mp 2)], [(2, .i, .i)]⟩, [(.ret, ⟨[(8, .hole .i)], [(0, (.arr 64 (.st .entry)), .hole (.arr 64 (.st .entry))), (1, (.st .batch), .hole (.st .batch)), (3, .bool, .mp 2)], [(2, .i, .i)]⟩), (.exit 0, ⟨[], [(0, (.arr 64 (.st .entry)), .hole (.arr 64 (.st .entry))), (1, (.st .batch), .hole (.st .batch)), (3, .bool, .mp 2)], [(2, .i, .i)]⟩)], 10, []⟩)])]
noncomputable def B_roster_Fits : Bodies := [bodyLine 93 Tryd.f93]
theorem run_roster_Fits (x : denL [(.arr 64 (.st .entry)), (.st .batch)]) : run [(92, c_roster_Check), (94, c_roster_Find), (76, c_roster_Taken), (95, c_seats_Count)] L_roster_Fits Ls_roster_Fits B_roster_Fits Tryd.f67 [(.arr 64 (.st .entry)), (.st .batch)] [.i] x = g_roster_Fits x := by kernel_rfl
theorem ok_roster_Fits : ConOK Tryd.prog 67 c_roster_Fits := con_ok (ConsOK.cons ok_roster_Check (ConsOK.cons ok_roster_Find (ConsOK.cons ok_roster_Taken (ConsOK.cons ok_seats_Count (ConsOK.nil))))) L_roster_Fits Ls_roster_Fits (B := B_roster_Fits) (BodiesOK.cons Tryd.func93 rfl (BodiesOK.nil)) Tryd.func67 rfl fun x y hf h => (run_roster_Fits x).trans (eq_roster_Fits x y hf h)
end Go.Proofs.YtmjobjaajnjgjaaDoor
end

section
namespace Go.Proofs.YtmjobjaajnjgjaaDoor
open Go Go.Co Go.Co.N Go.Proofs
theorem ok_seats_Take : ConOK Tryd.prog 100 c_seats_Take := ok_seats_Take_of ok_seats_Count ok_seats_bit
noncomputable def L_roster_Move : List (Nat × LD) := [(11, ⟨⟨[(2, .hole .i), (3, .hole .i), (4, .ptr 0 []), (5, .ptr 1 []), (8, .ptr 2 []), (13, .row (.st .seat)), (14, .nils), (49, .hole (.list .i)), (50, .hole .i), (51, .hole .i)], [(0, (.arr 64 (.st .entry)), .hole (.arr 64 (.st .entry))), (1, (.st .batch), .hole (.st .batch)), (2, (.arr 64 (.st .entry)), .hole (.arr 64 (.st .entry)))], []⟩, [(.exit 1, ⟨[(2, .hole .i), (3, .hole .i), (4, .ptr 0 []), (5, .ptr 1 []), (8, .ptr 2 []), (13, .row (.st .seat)), (14, .nils)], [(0, (.arr 64 (.st .entry)), .hole (.arr 64 (.st .entry))), (1, (.st .batch), .hole (.st .batch)), (2, (.arr 64 (.st .entry)), .hole (.arr 64 (.st .entry)))], []⟩)], 13, []⟩), (19, ⟨⟨[(2, .hole .i), (3, .hole .i), (4, .ptr 0 []), (5, .ptr 1 []), (8, .ptr 2 []), (13, .row (.st .seat)), (14, .row (.st .seat)), (78, .hole (.list .i)), (79, .hole .i), (80, .hole .i)], [(0, (.arr 64 (.st .entry)), .hole (.arr 64 (.st .entry))), (1, (.st .batch), .hole (.st .batch)), (2, (.arr 64 (.st .entry)), .hole (.arr 64 (.st .entry)))], []⟩, [(.exit 3, ⟨[(4, .ptr 0 []), (8, .ptr 2 []), (13, .row (.st .seat)), (14, .row (.st .seat))], [(0, (.arr 64 (.st .entry)), .hole (.arr 64 (.st .entry))), (2, (.arr 64 (.st .entry)), .hole (.arr 64 (.st .entry)))], []⟩)], 14, []⟩)]
noncomputable def Ls_roster_Move : List (Nat × List (Nat × LD)) := []
noncomputable def B_roster_Move : Bodies := []
theorem run_roster_Move (x : denL [(.arr 64 (.st .entry)), (.st .batch), .i, .i]) : run [(67, c_roster_Fits), (99, c_roster_names), (94, c_roster_Find), (76, c_roster_Taken), (100, c_seats_Take)] L_roster_Move Ls_roster_Move B_roster_Move Tryd.f72 [(.arr 64 (.st .entry)), (.st .batch), .i, .i] [(.arr 64 (.st .entry)), (.list (.st .seat)), (.list (.st .seat)), .i] x = g_roster_Move x := by kernel_rfl
theorem ok_roster_Move : ConOK Tryd.prog 72 c_roster_Move := con_ok (ConsOK.cons ok_roster_Fits (ConsOK.cons ok_roster_names (ConsOK.cons ok_roster_Find (ConsOK.cons ok_roster_Taken (ConsOK.cons ok_seats_Take (ConsOK.nil)))))) L_roster_Move Ls_roster_Move (B := B_roster_Move) (BodiesOK.nil) Tryd.func72 rfl fun x y hf h => (run_roster_Move x).trans (eq_roster_Move x y hf h)
noncomputable def L_plan_step : List (Nat × LD) := []
noncomputable def Ls_plan_step : List (Nat × List (Nat × LD)) := []
noncomputable def B_plan_step : Bodies := []
theorem run_plan_step (x : denL [(.st .tree), (.st .batch)]) : run [(66, c_keytree_Check), (67, c_roster_Fits), (69, c_plan_leavers), (68, c_plan_Replaced), (70, c_bits_OnesCount32), (71, c_ratchet_Turn), (72, c_roster_Move)] L_plan_step Ls_plan_step B_plan_step Tryd.f43 [(.st .tree), (.st .batch)] [(.st .tree), (.st .rekey), .i] x = g_plan_step x := by kernel_rfl
theorem ok_plan_step : ConOK Tryd.prog 43 c_plan_step := con_ok (ConsOK.cons ok_keytree_Check (ConsOK.cons ok_roster_Fits (ConsOK.cons ok_plan_leavers (ConsOK.cons ok_plan_Replaced (ConsOK.cons ok_bits_OnesCount32 (ConsOK.cons ok_ratchet_Turn (ConsOK.cons ok_roster_Move (ConsOK.nil)))))))) L_plan_step Ls_plan_step (B := B_plan_step) (BodiesOK.nil) Tryd.func43 rfl fun x y hf h => (run_plan_step x).trans (eq_plan_step x y hf h)
noncomputable def L_plan_items : List (Nat × LD) := [(8, ⟨⟨[(3, .ptr 1 []), (5, .ptr 2 []), (6, .fn 73 [0, 2]), (7, .hole (.int .u64)), (8, .hole (.int .u32)), (9, .hole .i), (10, .hole .i)], [(0, (.st .tree), .hole (.st .tree)), (1, (.st .rekey), .hole (.st .rekey)), (2, (.list (.st .item)), .row (.st .item))], []⟩, [(.exit 2, ⟨[(3, .ptr 1 []), (5, .ptr 2 []), (6, .fn 73 [0, 2]), (7, .hole (.int .u64)), (8, .hole (.int .u32)), (9, .hole .i)], [(0, (.st .tree), .hole (.st .tree)), (1, (.st .rekey), .hole (.st .rekey)), (2, (.list (.st .item)), .row (.st .item))], []⟩)], 11, []⟩), (5, ⟨⟨[(3, .ptr 1 []), (5, .ptr 2 []), (6, .fn 73 [0, 2]), (7, .hole (.int .u64)), (8, .hole (.int .u32)), (9, .hole .i)], [(0, (.st .tree), .hole (.st .tree)), (1, (.st .rekey), .hole (.st .rekey)), (2, (.list (.st .item)), .row (.st .item))], []⟩, [(.exit 0, ⟨[(3, .ptr 1 []), (5, .ptr 2 []), (6, .fn 73 [0, 2]), (8, .hole (.int .u32))], [(0, (.st .tree), .hole (.st .tree)), (1, (.st .rekey), .hole (.st .rekey)), (2, (.list (.st .item)), .row (.st .item))], []⟩)], 21, []⟩), (18, ⟨⟨[(5, .ptr 2 []), (6, .fn 73 [0, 2]), (8, .hole (.int .u32)), (13, .ptr 25 []), (54, .hole (.list (.st .seat))), (55, .hole .i), (56, .hole .i), (66, .hole (.arr 3 .i)), (67, .hole .i)], [(0, (.st .tree), .hole (.st .tree)), (2, (.list (.st .item)), .row (.st .item)), (25, (.st .seat), .hole (.st .seat))], []⟩, [(.exit 6, ⟨[(5, .ptr 2 []), (6, .fn 73 [0, 2]), (8, .hole (.int .u32)), (54, .hole (.list (.st .seat))), (55, .hole .i), (56, .hole .i)], [(0, (.st .tree), .hole (.st .tree)), (2, (.list (.st .item)), .row (.st .item))], []⟩)], 11, []⟩), (14, ⟨⟨[(5, .ptr 2 []), (6, .fn 73 [0, 2]), (8, .hole (.int .u32)), (54, .hole (.list (.st .seat))), (55, .hole .i), (56, .hole .i)], [(0, (.st .tree), .hole (.st .tree)), (2, (.list (.st .item)), .row (.st .item))], []⟩, [(.exit 4, ⟨[(5, .ptr 2 [])], [(2, (.list (.st .item)), .row (.st .item))], []⟩)], 23, []⟩)]
noncomputable def Ls_plan_items : List (Nat × List (Nat × LD)) := []
noncomputable def B_plan_items : Bodies := [bodyLine 73 Tryd.f73]
theorem run_plan_items (x : denL [(.st .tree), (.st .rekey)]) : run [(75, c_plan_nodeKey), (74, c_key_Seal), (76, c_roster_Taken), (68, c_plan_Replaced), (77, c_shape_Child), (78, c_shape_Mask), (79, c_shape_Path), (80, c_shape_Leaf)] L_plan_items Ls_plan_items B_plan_items Tryd.f44 [(.st .tree), (.st .rekey)] [(.list (.st .item))] x = g_plan_items x := by kernel_rfl
theorem ok_plan_items : ConOK Tryd.prog 44 c_plan_items := con_ok (ConsOK.cons ok_plan_nodeKey (ConsOK.cons ok_key_Seal (ConsOK.cons ok_roster_Taken (ConsOK.cons ok_plan_Replaced (ConsOK.cons ok_shape_Child (ConsOK.cons ok_shape_Mask (ConsOK.cons ok_shape_Path (ConsOK.cons ok_shape_Leaf (ConsOK.nil))))))))) L_plan_items Ls_plan_items (B := B_plan_items) (BodiesOK.cons Tryd.func73 rfl (BodiesOK.nil)) Tryd.func44 rfl fun x y hf h => (run_plan_items x).trans (eq_plan_items x y hf h)
noncomputable def L_plan_Next : List (Nat × LD) := []
noncomputable def Ls_plan_Next : List (Nat × List (Nat × LD)) := []
noncomputable def B_plan_Next : Bodies := []
theorem run_plan_Next (x : denL [(.st .tree), (.st .batch)]) : run [(43, c_plan_step), (44, c_plan_items)] L_plan_Next Ls_plan_Next B_plan_Next Tryd.f22 [(.st .tree), (.st .batch)] [(.st .tree), (.st .rekey), .i] x = g_plan_Next x := by kernel_rfl
theorem ok_plan_Next : ConOK Tryd.prog 22 c_plan_Next := con_ok (ConsOK.cons ok_plan_step (ConsOK.cons ok_plan_items (ConsOK.nil))) L_plan_Next Ls_plan_Next (B := B_plan_Next) (BodiesOK.nil) Tryd.func22 rfl fun x y hf h => (run_plan_Next x).trans (eq_plan_Next x y hf h)
end Go.Proofs.YtmjobjaajnjgjaaDoor
end
