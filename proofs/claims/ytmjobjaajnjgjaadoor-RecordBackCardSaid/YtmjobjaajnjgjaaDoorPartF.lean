/-
  Laws of chapter 13: what is written is read again, nothing longer and nothing shorter; records of steps lead through the same trees.
  A range over an iterator that keeps a box of its own: what the loop's body must keep.
  The n least free slots: the program's function that ranges over an iterator of its own.
  slices.Clone at whole numbers: it answers the same row, in memory of its own.
  The program computes so: printed by a program of my own (wip/tool).
  The program computes so: printed by a program of my own (wip/tool).
  The program computes so: printed by a program of my own (wip/tool).
  The program computes so: printed by a program of my own (wip/tool).
  No conditions. Own text, for the claims about coterie.
-/
import Derived.RangeFuncMany
import Derived.RangeFuncBox
import Derived.OwnWalkIn
import Derived.RangeFuncKeeps
import Derived.RangeFuncLeaves
import Derived.RangeFuncCalls
import Derived.Shelf.Abstract
import Derived.WalkKit
import Derived.TacticsInMore
import Derived.LoopNIn
import Derived.LoopIn
import Derived.Maps.AppendAt
import Derived.RegionIn
import Derived.Shelf.RegionOpen
import Derived.Deep.LoopGhost
import Derived.Lib.Walk
import Derived.Lib.SliceRun
import Derived.Test.YtmjobjaajnjgjaaDoorPartE

section
namespace Go.Co.N
open Go Go.Co

theorem size_rec {r : Record} (hg : goodRec r = true) : 1 ≤ (packT (recBits r)).size ∧ (packT (recBits r)).size ≤ 251 := by
  rw [size_packT]
  have := len_recBits_pos r; have := size_recBits hg; omega
theorem writeR_good {r : Record} (hg : goodRec r = true) : writeR r = (packT (recBits r), 0) := by unfold writeR; rw [hg]; rfl
theorem ext_split (a : ByteArray) (n : Nat) (h : n ≤ a.size) : a.extract 0 n ++ a.extract n a.size = a := by
  rw [ByteArray.extract_append_extract]
  simp [Nat.max_eq_right h]
theorem read_shorter {r : Record} (hg : goodRec r = true) : readR ((packT (recBits r)).extract 0 ((packT (recBits r)).size - 1)) = (zeroRec, 12) := by
  refine readR_bad fun s hs he => ?_
  have hz := size_rec hg
  have h := ext_split (packT (recBits r)) ((packT (recBits r)).size - 1) (by omega)
  rw [← he] at h
  have h1 := read_longer hs ((packT (recBits r)).extract ((packT (recBits r)).size - 1) (packT (recBits r)).size) (by rw [ByteArray.size_extract]; omega)
  rw [h, readR_write hg] at h1
  exact absurd (congrArg Prod.snd h1) (by show ¬ (0 : Int) = 12; decide)
theorem eq_law13_RecordBack : Eqs c_law13_RecordBack g_law13_RecordBack := Eqs.tot fun (r, b, _) hf => by
  change Record at r; change ByteArray at b
  have hb : ByteArray.size b ≤ 140737488355328 := Fine.str.1 hf.2.1
  have tail : (Option.bind (bif decide (ByteArray.size b ≤ 140737488355328) then some ((readR b).fst, (readR b).snd, ()) else none) fun y => bif !decide (y.snd.fst = 0) then bif decide (y.snd.fst = 12) then some (decide (y.fst = Record.mk 0 0 [] []), ()) else some (false, ()) else bif decide ((writeR y.fst).snd = 0) then some (decide ((writeR y.fst).fst = b), ()) else some (false, ())) = some (true, ()) := by
    simp only [decide_eq_true hb, cond_true, Option.bind_some]
    rcases readR_e b with h | h
    · obtain ⟨hg, hp⟩ := readR_ok h
      simp only [decide_eq_true h, Bool.not_true, cond_false, writeR_good hg, hp, decide_true, cond_true]
    · rw [h]; rfl
  show g_law13_RecordBack (r, b, ()) = some (true, ())
  simp only [g_law13_RecordBack, tail]
  rw [writeR_e]
  simp only [decide_true, Bool.not_true, cond_false]
  cases hg : goodRec r with
  | false => rfl
  | true =>
    obtain ⟨z1, z2⟩ := size_rec hg
    have s1 : decide (ByteArray.size (packT (recBits r)) ≤ 140737488355328) = true := decide_eq_true (by omega)
    have s2 : decide (ByteArray.size (packT (recBits r)) + 1 ≤ 140737488355328) = true := decide_eq_true (by omega)
    have hl := read_longer hg (bytesOf [0]) (by decide)
    have hl' : readR (ByteArray.append (packT (recBits r)) (bytesOf [0])) = (zeroRec, 12) := hl
    have s3 : decide (ByteArray.size (ByteArray.append (packT (recBits r)) (bytesOf [0])) ≤ 140737488355328) = true := decide_eq_true (by
      have : (packT (recBits r) ++ bytesOf [0]).size = (packT (recBits r)).size + (bytesOf [0]).size := ByteArray.size_append
      have e1 : (bytesOf [0]).size = 1 := by decide
      show (packT (recBits r) ++ bytesOf [0]).size ≤ _
      omega)
    have e0 : IntKind.wrap IntKind.i64 ((↑(ByteArray.size (packT (recBits r))) : Int) - 1) = ((ByteArray.size (packT (recBits r)) - 1 : Nat) : Int) := by rw [i64_in _ (by omega)]; omega
    have hs := read_shorter hg
    have s4 : decide (ByteArray.size (ByteArray.extract (packT (recBits r)) 0 (ByteArray.size (packT (recBits r)) - 1)) ≤ 140737488355328) = true := decide_eq_true (by rw [ByteArray.size_extract]; omega)
    have s5 : decide ((↑(ByteArray.size (packT (recBits r))) : Int) = 0) = false := decide_eq_false (by omega)
    have s6 : decide (((ByteArray.size (packT (recBits r)) - 1 : Nat) : Int) ≤ (↑(ByteArray.size (packT (recBits r))) : Int)) = true := decide_eq_true (by omega)
    simp only [cond_true, writeR_good hg, s1, s2, s3, hl', readR_write hg, Option.bind_some, decide_true, Bool.not_true, cond_false, s5, e0, Int.toNat_natCast, s4, hs, s6, Int.natCast_nonneg, Bool.and_self]

/-! ### Rows of records -/
theorem rec_good {t : Tree} {b : Batch} (h : (nextT t b).e = 0) : goodRec (ofR t b).1 = true := by
  have e : (ofR t b).1 = ⟨(nextT t b).t.Epoch, (nextT t b).t.Fresh, b.Leaves, (nextT t b).joined⟩ := by unfold ofR; rw [decide_eq_true h]; rfl
  rw [e]
  obtain ⟨e1, e2, e3⟩ := nx_epoch h
  obtain ⟨r1, r2, r3⟩ := nx_room h
  have hfr := nx_fresh h
  obtain ⟨j1, j2, j3, j4⟩ := nextT_joined h
  have hfi := (nextT_ok h).2.2.1
  have hl := (askL_0 (fits_ok hfi).2.1).1
  refine goodRec_iff.2 ⟨⟨by show 1 ≤ (nextT t b).t.Epoch; omega, by show (nextT t b).t.Epoch ≤ 200; omega⟩, ⟨by show 22 ≤ (nextT t b).t.Fresh; omega, r1⟩, j4, by show (nextT t b).joined.length ≤ 64; omega, fun w hw => ?_, fun s hs => ?_⟩
  · obtain ⟨k1, k2, _⟩ := hl w hw; omega
  · obtain ⟨i, k, hi, _, hk, hsl, _⟩ := nx_joined_at h hs
    have hj := (nx_joins h).2 s.Who (List.mem_of_getElem? hi)
    omega
/-- The log and the trees of a row of steps, and where it has led. -/
inductive Led : List ByteArray → List Tree → Tree → Prop
  | nil : Led [] [] startT
  | step {l : List ByteArray} {ns : List Tree} {t : Tree} {b : Batch} : Led l ns t → (nextT t b).e = 0 → Led (l ++ [packT (recBits (ofR t b).1)]) (ns ++ [(nextT t b).t]) (nextT t b).t
theorem Led.len {l : List ByteArray} {ns : List Tree} {t : Tree} (h : Led l ns t) : l.length = ns.length ∧ t.Epoch = ns.length ∧ ns.length ≤ 200 := by
  induction h with
  | nil => exact ⟨rfl, rfl, Nat.zero_le _⟩
  | step h0 he ih =>
    obtain ⟨a, b, c⟩ := nx_epoch he
    obtain ⟨i1, i2, i3⟩ := ih
    simp only [List.length_append, List.length_cons, List.length_nil]
    omega
theorem Led.last {l : List ByteArray} {ns : List Tree} {t : Tree} (h : Led l ns t) : (startT :: ns)[ns.length]? = some t := by
  cases h with
  | nil => rfl
  | step h0 he => simp
theorem Led.at {l : List ByteArray} {ns : List Tree} {t : Tree} (h : Led l ns t) : ∀ i, i < l.length → ∃ (p : Tree) (b : Batch), (startT :: ns)[i]? = some p ∧ (nextT p b).e = 0 ∧ l[i]? = some (packT (recBits (ofR p b).1)) ∧ ns[i]? = some (nextT p b).t := by
  induction h with
  | nil => intro i hi; cases hi
  | @step l ns t b h0 he ih =>
    intro i hi
    have hl := h0.len.1
    rw [List.length_append, List.length_singleton] at hi
    by_cases h1 : i < l.length
    · obtain ⟨p, c, a1, a2, a3, a4⟩ := ih i h1
      refine ⟨p, c, ?_, a2, ?_, ?_⟩
      · rw [← List.cons_append, List.getElem?_append_left (by rw [List.length_cons]; omega), a1]
      · rw [List.getElem?_append_left h1, a3]
      · rw [List.getElem?_append_left (by omega), a4]
    · have hi2 : i = l.length := by omega
      subst hi2
      refine ⟨t, b, ?_, he, ?_, ?_⟩
      · rw [← List.cons_append, List.getElem?_append_left (by rw [List.length_cons]; omega), hl, h0.last]
      · simp
      · rw [hl]; simp
theorem nextR_ok0 {t : Tree} {b : Batch} (h : (nextT t b).e = 0) : (nextR t b).1 = (nextT t b).t ∧ (nextR t b).2.2 = 0 := by rw [nextR_st h]; exact ⟨rfl, rfl⟩
theorem runs_first : ∀ (n : Nat) (i : Nat) (s : List Batch) (l : List ByteArray) (ns : List Tree) (t : Tree), s.length = i + n → s.length ≤ 9000000000000000000 → Led l ns t → ∃ (l' : List ByteArray) (ns' : List Tree) (t' : Tree), Led l' ns' t' ∧
    lfp g_law13_RecordRuns_r1 (((), l, ns, s, (s.length : Int), (i : Int), ()), (t, ()), ()) = some (.inr (((), l', ns', ()), (t', ()), ()))
  | 0, i, s, l, ns, t, hn, _, h => by
    refine ⟨l, ns, t, h, lfp_inr ?_⟩
    have : decide ((i : Int) < (s.length : Int)) = false := decide_eq_false (by omega)
    simp only [g_law13_RecordRuns_r1, this, cond_false]
  | n + 1, i, s, l, ns, t, hn, hb, h => by
    have h1 : decide ((i : Int) < (s.length : Int)) = true := decide_eq_true (by omega)
    have hi : IntKind.i64.wrap ((i : Int) + 1) = ((i + 1 : Nat) : Int) := by rw [i64_in _ (by omega)]; omega
    obtain ⟨b1, b2, b3⟩ := h.len
    have k1 : decide ((l.length + 1) * 16 ≤ 140737488355328) = true := decide_eq_true (by omega)
    have k2 : decide ((ns.length + 1) * 1888 ≤ 140737488355328) = true := decide_eq_true (by omega)
    by_cases he : (nextT t (lat s (i : Int))).e = 0
    · obtain ⟨l', ns', t', hL, hr⟩ := runs_first n (i + 1) s _ _ _ (by omega) hb (.step h he)
      refine ⟨l', ns', t', hL, ?_⟩
      rw [← hr]
      refine lfp_inl ?_
      have o1 : (ofR t (lat s (i : Int))).2 = 0 := by rw [ofR_e, he]
      simp only [g_law13_RecordRuns_r1, h1, Int.natCast_nonneg, decide_true, Bool.and_self, cond_true, (nextR_ok0 he).1, (nextR_ok0 he).2, o1, Bool.not_true, cond_false, writeR_good (rec_good he), k1, k2, hi]
      rfl
    · obtain ⟨l', ns', t', hL, hr⟩ := runs_first n (i + 1) s l ns t (by omega) hb h
      refine ⟨l', ns', t', hL, ?_⟩
      rw [← hr]
      refine lfp_inl ?_
      simp only [g_law13_RecordRuns_r1, h1, Int.natCast_nonneg, decide_true, Bool.and_self, cond_true, nextR_e, ofR_e, decide_eq_false he, Bool.not_true, Bool.not_false, cond_false, hi]
/-! ### A right tree is never called wrong -/
theorem personE_31 {r : Roster} {seen : List Int} {leaves : Bool} {w : Int} : personE r seen leaves w ≠ 31 := by
  unfold personE
  cases decide (0 ≤ w) && decide (w < 256) <;> cases decide (w ∈ seen) <;> cases leaves <;> cases decide (0 ≤ findR r w) <;> decide
theorem askL_31 {r : Roster} {leaves : Bool} : ∀ (l seen : List Int), askL r leaves l seen ≠ 31
  | [], _ => by simp [askL]
  | w :: l, seen => by
    simp only [askL]
    by_cases h : personE r seen leaves w = 0
    · simp only [decide_eq_true h, cond_true]; exact askL_31 l _
    · simp only [decide_eq_false h, cond_false]; exact personE_31
theorem fits_31 {r : Roster} {b : Batch} (h : goodRoster r = true) : fits r b ≠ 31 := by
  unfold fits
  rw [h]
  simp only [cond_true]
  cases decide (askL r true b.Leaves [] = 0)
  · exact askL_31 _ _
  · cases decide (askL r false b.Joins b.Leaves = 0)
    · exact askL_31 _ _
    · cases decide ((b.Joins.length : Int) ≤ 64 - cntW (taken r) + b.Leaves.length) <;> simp
theorem turn_31 {k : Keys} {m f : Int} (h : goodKeys k = true) : (turn k m f).2.2 ≠ 31 := by
  unfold turn
  rw [h]
  simp only [cond_true]
  cases decide (m < 2097152)
  · simp
  · cases free k f (cntTo m 21)
    · simp
    · cases allN 21 (fun v => inB m v || decide (stp k v < 255)) <;> simp
theorem move_31 {r : Roster} {b : Batch} {since base : Int} (h : goodRoster r = true) : (move r b since base).e ≠ 31 := by
  unfold move
  cases decide (fits r b = 0)
  · exact fits_31 h
  · cases decide (1 ≤ since) && decide (since ≤ 200)
    · simp
    · cases namesFree r base b.Joins.length <;> simp [moveGo]
theorem nextT_31 {t : Tree} {b : Batch} (hg : goodTree t = true) : (nextT t b).e ≠ 31 := by
  obtain ⟨_, _, _, _, hk, hr, _, _⟩ := goodTree_iff.1 hg
  unfold nextT
  rw [hg]
  simp only [cond_true]
  cases decide (t.Epoch = 200)
  · cases decide (fits t.Roster b = 0)
    · exact fits_31 hr
    · cases decide ((stepTurn t b).2.2 = 0)
      · exact turn_31 hk
      · cases decide ((stepMove t b).e = 0)
        · exact move_31 hr
        · simp
  · simp
theorem play_again {t : Tree} {b : Batch} (h : (nextT t b).e = 0) : (playR (nextT t b).t (ofR t b).1).2.2 = 12 := by
  rw [playR, batch_back h]
  have hg := nx_good h
  by_cases h31 : (nextT (nextT t b).t b).e = 31
  · exact absurd h31 (nextT_31 hg)
  · rw [decide_eq_false h31]
    have hno : ofR (nextT t b).t b ≠ ((ofR t b).1, 0) := fun ho => by
      have := ofR_iff (r := (ofR t b).1) (t := (nextT t b).t)
      rw [batch_back h] at this
      obtain ⟨he, hep, _⟩ := this.1 ho
      have e1 := (nx_epoch he).1
      have e2 : (ofR t b).1.Epoch = (nextT t b).t.Epoch := by unfold ofR; rw [decide_eq_true h]; rfl
      omega
    rw [decide_eq_false hno]; rfl
theorem lat_get {α : Type} [Inhabited α] {l : List α} {i : Nat} {x : α} (h : l[i]? = some x) : lat l (i : Int) = x := by
  obtain ⟨h1, h2⟩ := List.getElem?_eq_some_iff.1 h
  rw [lat_nat l i h1, h2]
theorem runs_second (l : List ByteArray) (ns : List Tree) (t' : Tree) (h : Led l ns t') :
    lfp g_law13_RecordRuns_r2 (((), (), (), (l.length : Int), 0, ()), (startT, ()), l, ns, ()) = some (.inr ((), (t', ()), l, ns, ())) := by
  obtain ⟨b1, b2, b3⟩ := h.len
  rw [lfp_run' (fun i => (((), (), (), (l.length : Int), (i : Int), ()), ((startT :: ns).getD i default, ()), l, ns, ())) l.length (by rfl) (fun i hi => by
    obtain ⟨p, b, a1, a2, a3, a4⟩ := h.at i hi
    have g1 : (startT :: ns).getD i default = p := by rw [List.getD_eq_getElem?_getD, a1]; rfl
    have g2 : (startT :: ns).getD (i + 1) default = (nextT p b).t := by rw [List.getD_eq_getElem?_getD, List.getElem?_cons_succ, a4]; rfl
    have g3 : lat l (i : Int) = packT (recBits (ofR p b).1) := lat_get a3
    have g4 : lat ns (i : Int) = (nextT p b).t := lat_get a4
    have hg := rec_good a2
    have k1 : decide (ByteArray.size (packT (recBits (ofR p b).1)) ≤ 140737488355328) = true := decide_eq_true (by have := size_rec hg; omega)
    have k2 : decide ((i : Int) < (l.length : Int)) = true := decide_eq_true (by omega)
    have k3 : decide ((i : Int) < (ns.length : Int)) = true := decide_eq_true (by omega)
    have hi2 : IntKind.i64.wrap ((i : Int) + 1) = ((i + 1 : Nat) : Int) := by rw [i64_in _ (by omega)]; omega
    have pb := play_back a2
    simp only [g_law13_RecordRuns_r2, g1, g2, g3, g4, k1, k2, k3, Int.natCast_nonneg, decide_true, Bool.and_self, cond_true, readR_write hg, Option.bind_some, Bool.not_true, cond_false, pb, (nextR_ok0 a2).1, (nextR_ok0 a2).2, play_again a2, hi2])]
  refine lfp_inr ?_
  have hl : (startT :: ns).getD l.length default = t' := by rw [List.getD_eq_getElem?_getD, b1, h.last]; rfl
  simp only [hl, g_law13_RecordRuns_r2, Int.lt_irrefl, decide_false, cond_false]
theorem eq_law13_RecordRuns : Eqs c_law13_RecordRuns g_law13_RecordRuns := Eqs.tot fun (s, _) hf => by
  change List Batch at s
  have hs : s.length * 48 ≤ 140737488355328 := (Fine.list.1 hf.1).1
  show g_law13_RecordRuns (s, ()) = some (true, ())
  obtain ⟨l, ns, t, hL, hr⟩ := runs_first s.length 0 s [] [] startT (by omega) (by omega) .nil
  simp only [g_law13_RecordRuns]
  rw [show ((((), [], [], s, (s.length : Int), 0, ()), (startT, ()), ()) : (Unit × List ByteArray × List Tree × List Batch × Int × Int × Unit) × (Tree × Unit) × Unit) = (((), [], [], s, (s.length : Int), ((0 : Nat) : Int), ()), (startT, ()), ()) from rfl, hr]
  simp only [Option.bind_some, Sum.elim_inr]
  rw [runs_second l ns t hL]
  rfl
end Go.Co.N
end

section
namespace Go.Co
open Go Go.RowKit

/-- It speaks of cells alone. -/
structure Cl {α : Type} (n0 : Nat) (I : List α → World → Prop) : Prop where
  alloc : ∀ s A o, o.isCells = false → I s A → I s (A.alloc o)
  putObj : ∀ s A l o o', n0 ≤ l → I s A → A.heap[l]? = some o → o.isCells = false → o'.isCells = false → I s (A.putObj l o')
/-- What a round must achieve. -/
def roundPost {α : Type} (Be : Nat) (I : List α → World → Prop) (Ix : Code → List α → World → Prop) (xs : List α) (W : World) : Exit → Act → World → Prop
  | .normal, _, W' => KeepsOthers W W' ∧ W'.heap[Be]? = W.heap[Be]? ∧ I xs W'
  | .ret, _, W' => KeepsOthers W W' ∧ Ix .ret xs W'
  | .exit id, _, W' => KeepsOthers W W' ∧ Ix (.exit id) xs W'
  | _, _, _ => False
theorem rangeFunc_box {F : Fence} {n : Nat} {P : Program} {α : Type} {g : Operand} {ps : Array Tmp} {assign body : Code} {Q : Exit → Act → World → Prop} {a : Act} {w : World}
    (hro : F.round = none) (h1 : 1 ≤ n) {gf : Nat} {lb : Array Value} (hg : a.eval g = .func (.func gf) #[] lb) (hFg : F.fn gf) (eg : ∀ args w, (callFunc gf args).run P w = .ok (.enter gf args) w)
    {encs : α → Array Value} {Be : Nat} {tB : TypeId} {xB : Value} {G : World → Prop} {xs : List α} (hps : ∀ x, (encs x).size = ps.size)
    (hseq : ∀ (l : Nat) (J Jx : List α → World → Prop) (W : World), (∀ pre A x v, J pre A → Boxed A Be tB x → J pre (A.setCell ⟨Be, 0, none⟩ v)) → (∀ pre A, J pre A → G A) →
      (∀ pre x W, J pre W → pre ++ [x] <+: xs → YieldAt F (n - 1 - 1) P l (encs x) W fun e W' => (e = .returned (.bool true) ∧ J (pre ++ [x]) W' ∧ W'.heap[Be]? = W.heap[Be]?) ∨ (e = .returned (.bool false) ∧ Jx (pre ++ [x]) W')) →
      Boxed W Be tB xB → J [] W → CallsIn F (n - 1) P gf (#[.func (.yield l) #[] #[]] ++ lb) W fun e W' => (∃ v, e = .returned v) ∧ (J xs W' ∨ ∃ pre, pre <+: xs ∧ Jx pre W'))
    (hB : Boxed w Be tB xB) (I : List α → World → Prop) (Ix : Code → List α → World → Prop) (hI : Cl w.heap.size I) (hIx : ∀ c, Cl w.heap.size (Ix c)) (hset : ∀ pre A x v, I pre A → Boxed A Be tB x → I pre (A.setCell ⟨Be, 0, none⟩ v)) (hG : ∀ pre A, I pre A → G A) (h0 : I [] w) (a₁ : α → Act)
    (hassign : ∀ (l : Nat) (x : α) (W : World) (K : Act → World → Prop), K (a₁ x) W →
      assign.wpIn (F.inRound l) (n - 1 - 1) P (Exit.then K (fun _ _ _ => False)) { tmps := (ps.zip (encs x)).foldl (fun t (p, v) => t.setIfInBounds p v) a.tmps, defers := [] } W)
    (hbody : ∀ (l : Nat) (pre : List α) (x : α) (W : World), I pre W → pre ++ [x] <+: xs → body.wpIn (F.inRound l) (n - 1 - 1) P (roundPost Be I Ix (pre ++ [x]) W) (a₁ x) W)
    (hdone : ∀ (D : Nat) (W : World), I xs W → W.heap[D]? = some (.deferred (some [])) → w.heap.size ≤ D → Q .normal { a with defers := { target := .collected D, args := #[] } :: a.defers } W)
    (hstop : ∀ (D : Nat) (c : Code) (pre : List α) (W : World), pre <+: xs → Ix c pre W → W.heap[D]? = some (.deferred (some [])) → w.heap.size ≤ D → c.wpIn F n P Q { a with defers := { target := .collected D, args := #[] } :: a.defers } W) :
    (Code.rangeFunc g ps assign body).wpIn F n P Q a w := by
  refine wpIn_rangeFunc ?_
  intro fn hfn
  rw [hro]
  obtain ⟨rec, hrec⟩ : ∃ rec : LoopState → Option Code → Loop, rec = fun st pe => { state := st, pending := pe, fn, tmps := a.tmps, params := ps, assign, body, defers := w.heap.size } := ⟨_, rfl⟩
  obtain ⟨W1, hW1⟩ : ∃ W1, (w.alloc (.deferred (some []))).alloc (.loop (rec .ready none)) = W1 := ⟨_, rfl⟩
  have hL1 : W1.heap[w.heap.size + 1]? = some (.loop (rec .ready none)) := by
    rw [← hW1]; have := World.alloc_heap_new (w.alloc (.deferred (some []))) (.loop (rec .ready none)); rwa [World.size_alloc] at this
  have hK1 : W1.heap[w.heap.size]? = some (.deferred (some [])) := by
    rw [← hW1]; exact (Below.heap_alloc _ _ _ (by simp)).trans (World.alloc_heap_new w _)
  have hI1 : I [] W1 := by rw [← hW1]; exact hI.alloc _ _ _ rfl (hI.alloc _ _ _ rfl h0)
  have hB1 : Boxed W1 Be tB xB := by rw [← hW1]; exact (hB.alloc _).alloc _
  have hBlt : Be < w.heap.size := hB.lt
  refine ⟨w.heap.size + 1, [{ target := .collected w.heap.size, args := #[] }], W1, { target := .fn (.func gf) lb, args := #[.func (.yield (w.heap.size + 1)) #[] #[]] }, W1, gf,
    #[.func (.yield (w.heap.size + 1)) #[] #[]] ++ lb, W1, ?_, ?_, ?_, ?_, fun _ => h1, ?_⟩
  · rw [← hW1, hrec]; exact run_enterLoop_outer _ _ _ _ _
  · simp only [resolve, hg]
    simp [go_sem]
  · intro f' hf'; simp [Target.leads] at hf'; subst hf'; exact hFg
  · simp [invoke, go_sem, eg]
  · refine (hseq (w.heap.size + 1)
      (fun pre W => I pre W ∧ W.heap[w.heap.size + 1]? = some (.loop (rec .ready none)) ∧ W.heap[w.heap.size]? = some (.deferred (some [])))
      (fun pre W => ∃ c, Ix c pre W ∧ W.heap[w.heap.size + 1]? = some (.loop (rec .done (some c))) ∧ W.heap[w.heap.size]? = some (.deferred (some [])))
      W1 ?_ (fun pre A h => hG pre A h.1) ?_ hB1 ⟨hI1, hL1, hK1⟩).mono ?_
    · rintro pre A x v ⟨hi, hl, hk⟩ hb
      exact ⟨hset _ _ _ _ hi hb, (KeepsOthers.setCell A _ v).same _ _ hl rfl, (KeepsOthers.setCell A _ v).same _ _ hk rfl⟩
    · -- one round
      rintro pre x W ⟨hi, hl, hk⟩ hpre
      have hlt : w.heap.size + 1 < W.heap.size := (Array.getElem?_eq_some_iff.1 hl).1
      have hy := run_yield (P := P) (args := encs x) hl (by rw [hrec]; exact hps x)
      rw [hrec] at hy
      refine ⟨fn, _, assign, body, hy, roundIn_of_wpIn hfn (hassign _ x W _ ⟨_, run_beginRound hl (by rw [hrec]), ?_⟩)⟩
      have hl2 : (W.putObj (w.heap.size + 1) (.loop { rec .ready none with state := .busy })).heap[w.heap.size + 1]? = some (.loop { rec .ready none with state := .busy }) := World.putObj_heap_same hlt
      have hk2 : (W.putObj (w.heap.size + 1) (.loop { rec .ready none with state := .busy })).heap[w.heap.size]? = some (.deferred (some [])) := (World.putObj_heap_other (by omega)).trans hk
      have hb2 : (W.putObj (w.heap.size + 1) (.loop { rec .ready none with state := .busy })).heap[Be]? = W.heap[Be]? := World.putObj_heap_other (by omega)
      refine wpIn_mono (hbody _ pre x _ (hI.putObj _ _ _ _ _ (by omega) hi hl rfl rfl) hpre) ?_
      have fin : ∀ (jump : Option Code) (W3 : World), KeepsOthers (W.putObj (w.heap.size + 1) (.loop { rec .ready none with state := .busy })) W3 →
          (Instr.endRound (w.heap.size + 1) jump).run P W3 = .ok (.bool jump.isNone) (W3.putObj (w.heap.size + 1) (.loop (rec (if jump.isNone then .ready else .done) jump))) ∧
          W3.heap[w.heap.size + 1]? = some (.loop { rec .ready none with state := .busy }) ∧
          (W3.putObj (w.heap.size + 1) (.loop (rec (if jump.isNone then .ready else .done) jump))).heap[w.heap.size + 1]? = some (.loop (rec (if jump.isNone then .ready else .done) jump)) ∧
          (W3.putObj (w.heap.size + 1) (.loop (rec (if jump.isNone then .ready else .done) jump))).heap[w.heap.size]? = some (.deferred (some [])) := fun jump W3 hk3 => by
        have hl3 := hk3.same _ _ hl2 rfl
        have := run_endRound (P := P) jump hl3
        rw [hrec] at this ⊢
        exact ⟨this, by rw [hrec] at hl3; exact hl3, World.putObj_heap_same (Array.getElem?_eq_some_iff.1 hl3).1, (World.putObj_heap_other (by omega)).trans (hk3.same _ _ hk2 rfl)⟩
      rintro e a3 W3 hp
      cases e with
      | normal =>
        obtain ⟨hk3, hb3, hi3⟩ := hp
        obtain ⟨hr, hl3, hl4, hk4⟩ := fin none W3 hk3
        exact ⟨_, _, hr, .inl ⟨rfl, ⟨hI.putObj _ _ _ _ _ (by omega) hi3 hl3 rfl rfl, hl4, hk4⟩, ((World.putObj_heap_other (by omega)).trans hb3).trans hb2⟩⟩
      | ret =>
        obtain ⟨hk3, hi3⟩ := hp
        obtain ⟨hr, hl3, hl4, hk4⟩ := fin (some .ret) W3 hk3
        exact ⟨_, _, hr, .inr ⟨rfl, .ret, (hIx _).putObj _ _ _ _ _ (by omega) hi3 hl3 rfl rfl, hl4, hk4⟩⟩
      | exit id =>
        obtain ⟨hk3, hi3⟩ := hp
        obtain ⟨hr, hl3, hl4, hk4⟩ := fin (some (.exit id)) W3 hk3
        exact ⟨_, _, hr, .inr ⟨rfl, .exit id, (hIx _).putObj _ _ _ _ _ (by omega) hi3 hl3 rfl rfl, hl4, hk4⟩⟩
      | goto t => exact hp.elim
      | panic ch => exact hp.elim
      | outgrown => exact hp.elim
    · -- behind the iterator
      rintro e W2 ⟨⟨v, rfl⟩, (⟨hi, hl, hk⟩ | ⟨pre, hpre, c, hi, hl, hk⟩)⟩
      · exact ⟨none, _, by have := run_endLoop (P := P) hl (by rw [hrec]; simp); rw [hrec] at this; exact this, hdone _ _ (hI.putObj _ _ _ _ _ (by omega) hi hl rfl rfl) ((World.putObj_heap_other (by omega)).trans hk) (Nat.le_refl _)⟩
      · exact ⟨some c, _, by have := run_endLoop (P := P) hl (by rw [hrec]; simp); rw [hrec] at this; exact this, hstop _ c pre _ hpre ((hIx c).putObj _ _ _ _ _ (by omega) hi hl rfl rfl) ((World.putObj_heap_other (by omega)).trans hk) (Nat.le_refl _)⟩

/-! ### Nothing is frozen by an append -/
theorem fz_alloc (w : World) (o : Obj) (ho : ∀ cs e f, o = .cells cs e f → f = (0, 0)) (a : Addr) : (w.alloc o).frozen? a = w.frozen? a := by
  by_cases h : a.block = w.heap.size
  · have h1 : (w.alloc o).heap[a.block]? = some o := by rw [h]; exact World.alloc_heap_new w o
    have h2 : w.heap[a.block]? = none := by rw [h]; simp
    unfold World.frozen?
    rw [h1, h2]
    cases o with
    | cells cs e f => have := ho cs e f rfl; subst this; simp
    | _ => rfl
  · by_cases hlt : a.block < w.heap.size
    · exact frozen_same (Below.heap_alloc _ _ _ hlt)
    · have h1 : (w.alloc o).heap[a.block]? = none := Array.getElem?_eq_none (by have := World.size_alloc w o; omega)
      have h2 : w.heap[a.block]? = none := Array.getElem?_eq_none (by omega)
      exact frozen_same (h1.trans h2.symm)
theorem fz_set (w : World) (b : Addr) (v : Value) (a : Addr) : (w.setCell b v).frozen? a = w.frozen? a := by rw [World.frozen?_setCell]
theorem fz_putObj (w : World) {l : Nat} {o : Obj} (o' : Obj) (hl : w.heap[l]? = some o) (ho : o.isCells = false) (ho' : o'.isCells = false) (a : Addr) : (w.putObj l o').frozen? a = w.frozen? a := by
  by_cases h : a.block = l
  · have h1 : (w.putObj l o').heap[a.block]? = some o' := by rw [h]; exact World.putObj_heap_same (Array.getElem?_eq_some_iff.1 hl).1
    have nc : ∀ o : Obj, o.isCells = false → ∀ w : World, w.heap[a.block]? = some o → w.frozen? a = false := fun o ho w hw => by
      unfold World.frozen?
      rw [hw]
      cases o <;> first | rfl | (simp [Obj.isCells] at ho)
    rw [nc o' ho' _ h1, nc o ho w (by rw [h]; exact hl)]
  · exact frozen_same (World.putObj_heap_other h)
theorem fz_append {P : Program} {w : World} {base : Nat} {t ty e : TypeId} {i : TypeInfo} {z : Value} (ht : P.underlying t = some (.slice e)) (hi : P.info? e = some i) (hz : i.zero = some z)
    {v : Value} {n : Nat} {xs : List Value} (hown : w.ownsRow base e i.size v n xs) {a : Addr} {m c : Nat} {news : List Value} (hl : news.length = m * i.size) (hnews : ∀ j u, news[j]? = some u → w.cell? (a.add j) = some u) (h1 : ∀ u ∈ news, u.oneCell' = true)
    (hm : 0 < m) (h63 : n + m ≤ maxLen) (hbytes : (n + m) * i.bytes ≤ 140737488355328) {v' : Value} {w' : World} (hrun : (Builtin.append_ #[t, t] ty #[v, .slice (some a) m c]).run P w = .ok v' w') (b : Addr) : w'.frozen? b = w.frozen? b := by
  have hsmall : n + m ≤ 9223372036854775807 := by simp only [maxLen] at h63; omega
  have new : ∀ cs : Array Value, (w.drew.alloc (.cells cs e)).frozen? b = w.frozen? b := fun cs => (fz_alloc w.drew _ (fun _ _ _ h => by cases h; rfl) b).trans rfl
  rcases hown.2 with ⟨rfl, rfl⟩ | ⟨g, cap, cur, rfl, _, hg, _, _, hcs, _⟩
  · rw [run_append_nil (P := P) w t ty e i z ht hi hz a m c news hl hnews hm (by omega) (by simp only [Nat.zero_add] at hbytes; omega)] at hrun
    cases hrun; exact new _
  · by_cases hroom : n + m ≤ cap
    · have hfit : n * i.size + news.length ≤ cur.size := by rw [hl, hcs, ← Nat.add_mul]; exact Nat.mul_le_mul_right _ hroom
      rw [run_append_room (P := P) w t ty e i ht hi g n cap cur hg a m c news hl hnews h1 hroom hfit] at hrun
      cases hrun
      by_cases hb : b.block = g
      · have := setRow_heap w g cur (cur.toList.take (n * i.size) ++ news ++ cur.toList.drop (n * i.size + news.length)).toArray e (0, 0) hg
        unfold World.frozen?
        rw [hb, this, hg]
      · exact frozen_same (setRow_other w g b.block _ hb)
    · have holds : ∀ j u, xs[j]? = some u → w.cell? ((⟨g, 0, none⟩ : Addr).add j) = some u := hown.cells (g := g) rfl
      rw [run_append_grow (P := P) w t ty e i z ht hi hz ⟨g, 0, none⟩ n cap xs hown.1 holds a m c news hl hnews (by omega) (by omega) (growslice_fits (by omega) hbytes)] at hrun
      cases hrun; exact new _
/-- An append to a row of one's own, in a walk; nothing is frozen by it. -/
theorem wpListIn_append_fz {F : Fence} {k : Nat} {P : Program} (w : World) {ops : Array Oper} {rest : List Oper} {o : Oper} {a : Act} {Q : Exit → Act → World → Prop}
    (hg : o.guard = none) (s x : Operand) (t : TypeId) (hop : o.op = Op.call { callee := Callee.builtin Builtin.append, args := #[s, x], argTypes := #[t, t] })
    (base : Nat) (e : TypeId) (i : TypeInfo) (z : Value) (size bytes : Nat) (h1 : P.underlying t = some (.slice e)) (h2 : P.info? e = some i) (h3 : i.zero = some z) (h4 : i.size = size) (h5 : i.bytes = bytes) (h6 : z.cells.size = size) (h7 : 0 < size)
    (v : Value) (n : Nat) (xs : List Value) (hs : a.eval s = v) (hown : w.ownsRow base e size v n xs) (ad : Addr) (m c : Nat) (news : List Value) (hx : a.eval x = .slice (some ad) m c) (hn : news.length = m * size)
    (hc : ∀ j u, news[j]? = some u → w.cell? (ad.add j) = some u) (h1c : ∀ u ∈ news, u.oneCell' = true) (hm : 0 < m) (b1 : n + m ≤ maxLen) (b2 : (n + m) * bytes ≤ 140737488355328) (b3 : base ≤ w.heap.size)
    (hK : ∀ v' w', w'.ownsRow base e size v' (n + m) (xs ++ news) → w.grownBy w' v.ownBlock → (v' = .slice none 0 0 ↔ v = .slice none 0 0 ∧ m = 0) → (∀ b, w'.frozen? b = w.frozen? b) → wpListIn F k P ops Q rest (a.put o.dst v') w') :
    wpListIn F k P ops Q (o :: rest) a w := by
  refine wpListIn_plain hg fun K hK' => ?_
  obtain ⟨v', w', hrun, r1, r2, r3⟩ := run_append_own (P := P) w base t o.type e i z size bytes h1 h2 h3 h4 h5 h6 h7 v n xs hown ad m c news hn hc h1c b1 b2 b3
  subst h4; subst h5
  have hz := fun b => fz_append h1 h2 h3 hown hn hc h1c hm b1 b2 hrun b
  unfold Oper.wpIn
  refine ⟨?_, ?_⟩
  · simp [Oper.about, hop, resolve, Target.leads, Sem.run_pure]
  · rw [Oper.semAt_plain F _ _ (by rw [hop]; intro c hc'; cases hc')]
    simp [execOp, hop, resolve, invoke, builtin, hs, hx, hrun, Result.andThen]
    exact hK' _ _ (hK v' w' r1 r2 r3 hz)
end Go.Co
end

section
namespace Go.Proofs.YtmjobjaajnjgjaaDoor
open Go Go.Co Go.Co.N Go.Proofs Go.RowKit Go.Shelf
attribute [local go_sem] Oper.semAt_some

theorem low_walk {x : Nat} (h0 : 0 < x) (h1 : x < 18446744073709551616) : 0 ≤ IntKind.u64.wrap (Go.bits BinOp.and IntKind.u64 (x : Int) (IntKind.u64.wrap (-(x : Int))) * 285870213051353865) / 288230376151711744 ∧
    IntKind.u64.wrap (Go.bits BinOp.and IntKind.u64 (x : Int) (IntKind.u64.wrap (-(x : Int))) * 285870213051353865) / 288230376151711744 < 64 ∧
    tab64[(IntKind.u64.wrap (Go.bits BinOp.and IntKind.u64 (x : Int) (IntKind.u64.wrap (-(x : Int))) * 285870213051353865) / 288230376151711744).toNat]? = some (tzN x) := by
  have e1 : IntKind.u64.wrap (-(x : Int)) = ((18446744073709551616 - x : Nat) : Int) := by
    show (-(x : Int)) % 18446744073709551616 = _
    omega
  have e2 : Go.bits BinOp.and IntKind.u64 (x : Int) ((18446744073709551616 - x : Nat) : Int) = ((x &&& (18446744073709551616 - x) : Nat) : Int) := bw_and64 _ _ h1 (by omega)
  have e3 : IntKind.u64.wrap (((x &&& (18446744073709551616 - x) : Nat) : Int) * 285870213051353865) = (((x &&& (18446744073709551616 - x)) * 285870213051353865 % 18446744073709551616 : Nat) : Int) := by
    show (((x &&& (18446744073709551616 - x) : Nat) : Int) * 285870213051353865) % 18446744073709551616 = _
    omega
  have hlt : (x &&& (18446744073709551616 - x)) * 285870213051353865 % 18446744073709551616 < 18446744073709551616 := Nat.mod_lt _ (by omega)
  rw [e1, e2, e3]
  refine ⟨by omega, by omega, ?_⟩
  have := tab_low h0 (show x < 2 ^ 64 by omega)
  rw [show (((((x &&& (18446744073709551616 - x)) * 285870213051353865 % 18446744073709551616 : Nat) : Int)) / 288230376151711744).toNat = (x &&& (18446744073709551616 - x)) * 285870213051353865 % 18446744073709551616 / 288230376151711744 by omega]
  exact this
theorem glob_name : ∃ gl, Tryd.prog.globals[0]? = some gl ∧ gl.name = "math/bits.deBruijn64tab" := by
  have h : (Tryd.prog.globals[0]?.map (·.name)) = some "math/bits.deBruijn64tab" := by kernel_rfl
  cases hg : Tryd.prog.globals[0]? with
  | none => rw [hg] at h; cases h
  | some gl => rw [hg] at h; exact ⟨gl, rfl, Option.some.inj h⟩
theorem wrap_tz {x : Nat} (h0 : 0 < x) (h1 : x < 18446744073709551616) : wrap64 (tzN x : Int) = (tzN x : Int) := by
  have := (bitsL_cons h0 (show x < 2 ^ 64 by omega)).1
  exact Go.IntWalk.wrap64_in _ (by omega)
set_option maxHeartbeats 1000000 in
theorem tz_in (F : Fence) (n : Nat) (hF : F.fn 123) (hro : F.round = none) (x : Nat) (h0 : 0 < x) (h1 : x < 18446744073709551616) (w : World) (hg : GOK Tryd.prog w) :
    CallsIn F n Tryd.prog 123 #[.int .u64 (x : Int)] w fun e w' => e = .returned (.int .i64 (tzN x : Int)) ∧ w' = w := by
  obtain ⟨b1, b2, b3⟩ := low_walk h0 h1
  obtain ⟨gl, g1, g2⟩ := glob_name
  have hc := hg 0 gl g1 g2 _ _ b3
  have hx : ¬ (x : Int) = 0 := by omega
  have hx2 : ((x : Int) == 0) = false := by simpa using hx
  refine callsIn_of_wp Tryd.func123 rfl hF ?_ hro
  simp only [Tryd.ntmps123, List.size_toArray, List.length_cons, List.length_nil, Nat.reduceAdd, Nat.reduceSub, Array.replicate_succ, Array.replicate_zero, List.push_toArray, List.append_toArray, List.nil_append, List.cons_append]
  gi_wp2
  rw [wrap_tz h0 h1]
  go_ret
  exact ⟨rfl, rfl⟩

/-! ### The iterator -/
/-- What a box holds of a word. -/
def boxW (W : World) (B : Nat) : Nat := match W.cell? ⟨B, 0, none⟩ with | some (.int _ x) => x.toNat | _ => 0
theorem boxW_eq {W : World} {B x : Nat} {t : TypeId} (h : Boxed W B t (.int .u64 (x : Int))) : boxW W B = x := by
  unfold boxW; rw [h.cell]; simp
theorem pred_walk {x : Nat} (h0 : 0 < x) (h1 : x < 18446744073709551616) : Go.bits BinOp.and IntKind.u64 (x : Int) ((x : Int) - 1) = ((x &&& (x - 1) : Nat) : Int) := by
  have e1 : (x : Int) - 1 = ((x - 1 : Nat) : Int) := by omega
  rw [e1]
  exact bw_and64 _ _ h1 (by omega)
set_option maxRecDepth 100000 in
set_option maxHeartbeats 2000000 in
theorem each1_in (F : Fence) (n : Nat) (h103 : F.fn 122) (h104 : F.fn 123) (hro : F.round = none) (hn : 1 ≤ n) (l Be : Nat) (x0 : Nat) (hx0 : x0 < 18446744073709551616) (J Jx : List Nat → World → Prop)
    (hJ : ∀ pre A x v, J pre A → Boxed A Be 74 x → J pre (A.setCell ⟨Be, 0, none⟩ v)) (hJg : ∀ pre A, J pre A → GOK Tryd.prog A)
    (hY : ∀ (pre : List Nat) (x : Nat) W, J pre W → pre ++ [x] <+: bitsL x0 → YieldAt F (n - 1) Tryd.prog l #[.int .i64 (x : Int)] W fun e W' =>
      (e = .returned (.bool true) ∧ J (pre ++ [x]) W' ∧ W'.heap[Be]? = W.heap[Be]?) ∨ (e = .returned (.bool false) ∧ Jx (pre ++ [x]) W'))
    (W : World) (hBe : Boxed W Be 74 (.int .u64 (x0 : Int))) (h0 : J [] W) :
    CallsIn F n Tryd.prog 122 #[.func (.yield l) #[] #[], .pointer (some ⟨Be, 0, none⟩)] W fun e W' => (∃ v, e = .returned v) ∧ (J (bitsL x0) W' ∨ (∃ pre, pre <+: bitsL x0 ∧ Jx pre W')) := by
  refine callsIn_of_wp Tryd.func122 rfl h103 ?_ hro
  simp only [Tryd.ntmps122, List.size_toArray, List.length_cons, List.length_nil, Nat.reduceAdd, Nat.reduceSub, Array.replicate_succ, Array.replicate_zero, List.push_toArray, List.append_toArray, List.nil_append, List.cons_append]
  gi_wp2
  gi_loopw [] (fun wr => ∃ (pre : List Nat) (rem : Nat), bitsL x0 = pre ++ bitsL rem ∧ rem < 18446744073709551616 ∧ Boxed wr Be 74 (.int .u64 (rem : Int)) ∧ J pre wr)
    (fun wr => boxW wr Be)
  case atStart => exact ⟨[], x0, rfl, hx0, hBe, h0⟩
  case round =>
    obtain ⟨pre, rem, hx, hlt, hb, hJs⟩ := hrel
    have hc := hb.cell
    by_cases hz : rem = 0
    · subst hz
      have hz0 : (((0 : Nat) : Int) == 0) = true := rfl
      gi_wp2
      go_end0
      rw [bitsL_zero, List.append_nil] at hx
      exact ⟨⟨_, rfl⟩, .inl (by rw [hx]; exact hJs)⟩
    · have hz0 : (((rem : Nat) : Int) == 0) = false := by simpa using hz
      obtain ⟨k1, k2, k3⟩ := bitsL_cons (show 0 < rem by omega) (show rem < 2 ^ 64 by omega)
      have hpre : pre ++ [tzN rem] <+: bitsL x0 := ⟨bitsL (rem &&& (rem - 1)), by rw [hx, k2]; simp⟩
      obtain ⟨fn, tmps, assign, body, hy, hR⟩ := hY pre (tzN rem) wr hJs hpre
      gi_wp2_with (gi_at_call 123; refine (tz_in F (n - 1) h104 hro rem (by omega) hlt wr (hJg _ _ hJs)).mono ?_; rintro e w' ⟨rfl, rfl⟩)
      refine hR.mono ?_
      rintro e W3 (⟨rfl, hJ3, hk3⟩ | ⟨rfl, hJx3⟩)
      · have hb3 : Boxed W3 Be 74 (.int .u64 (rem : Int)) := hk3.trans hb
        have hc3 := hb3.cell
        have hf3 := hb3.frozen
        gi_wp2
        rw [pred_walk (by omega) hlt]
        go_roundw
        case rel => exact ⟨pre ++ [tzN rem], rem &&& (rem - 1), by rw [hx, k2]; simp, by omega, hb3.set _, hJ _ _ _ _ hJ3 hb3⟩
        case measure => rw [boxW_eq (hb3.set _), boxW_eq hb]; exact k3
      · gi_wp2
        refine bodyPost_ret (results_none rfl _ _ _) rfl ?_
        exact ⟨⟨_, rfl⟩, .inr ⟨pre ++ [tzN rem], hpre, hJx3⟩⟩
set_option maxHeartbeats 1000000 in
theorem each_in (F : Fence) (n : Nat) (hF : F.fn 119) (hro : F.round = none) (x : Int) (w : World) :
    CallsIn F n Tryd.prog 119 #[.int .u64 x] w fun e w' => e = .returned (.func (.func 122) #[] #[.pointer (some ⟨w.heap.size, 0, none⟩)]) ∧ w' = w.alloc (.cells #[.int .u64 x] 74) := by
  refine callsIn_of_wp Tryd.func119 rfl hF ?_ hro
  simp only [Tryd.ntmps119, List.size_toArray, List.length_cons, List.length_nil, Nat.reduceAdd, Nat.reduceSub, Array.replicate_succ, Array.replicate_zero, List.push_toArray, List.append_toArray, List.nil_append, List.cons_append]
  gi_wp2
  go_ret
  exact ⟨rfl, rfl⟩

/-! ### The least free slots -/
theorem count_calls (h : ConOK Tryd.prog 95 c_seats_Count) (s : Nat) (hs : s < 18446744073709551616) (w : World) (hg : GOK Tryd.prog w) :
    CallsIn Fence.wide 9 Tryd.prog 95 #[.int .u64 (s : Int)] w fun e w' => e = .returned (.int .i64 (cntW (s : Int))) ∧ Blw w.heap.size w w' := by
  refine callsIn_wide.2 (Calls.mono (h.run w (fun _ => False) ((s : Int), ()) [.int .u64 (s : Int)] _ hg (fun _ h => h.elim) ⟨⟨_, rfl, Rd.int.2 ⟨rfl, ?_⟩⟩, trivial⟩ rfl) ?_)
  · rw [inKind_iff]; show 0 ≤ (s : Int) ∧ (s : Int) ≤ 18446744073709551615; omega
  · rintro e w' ⟨z, rfl, hb, cs, hz, hr⟩
    have hr := (Rd.int.1 hr).1
    subst hr
    exact ⟨by rw [hz]; rfl, hb⟩
theorem bit_calls (h : ConOK Tryd.prog 120 c_seats_bit) (i : Nat) (hi : i < 64) (w : World) (hg : GOK Tryd.prog w) :
    CallsIn Fence.wide 7 Tryd.prog 120 #[.int .i64 (i : Int)] w fun e w' => e = .returned (.int .u64 ((2 ^ i : Nat) : Int)) ∧ Blw w.heap.size w w' := by
  refine callsIn_wide.2 (Calls.mono (h.run w (fun _ => False) ((i : Int), ()) [.int .i64 (i : Int)] _ hg (fun _ h => h.elim) ⟨⟨_, rfl, Rd.int.2 ⟨rfl, ?_⟩⟩, trivial⟩ rfl) ?_)
  · rw [inKind_iff]; show -9223372036854775808 ≤ (i : Int) ∧ (i : Int) ≤ 9223372036854775807; omega
  · rintro e w' ⟨z, rfl, hb, cs, hz, hr⟩
    have hr := (Rd.int.1 hr).1
    subst hr
    refine ⟨?_, hb⟩
    rw [hz]
    show Ending.returned (Value.int IntKind.u64 (bitOf (i : Int))) = _
    unfold bitOf
    rw [if_pos ⟨by omega, by omega⟩, Int.toNat_natCast]
/-- An answer of three. -/
def takeRes (W : World) (base : Nat) (z : Value) (l : List Nat) (s : Nat) : Prop := ∃ v, z = .tuple #[v, .int .u64 (s : Int), .int .i64 0] ∧ W.ownsRow base 3 1 v l.length (l.map fun (i : Nat) => Value.int .i64 (i : Int))
theorem region_key {F : Fence} {n : Nat} {P : Program} {c : Code} {K : Act → World → Prop} {X : Exit → Act → World → Prop} {a : Act} {w : World} (a' : Act) (Inv : World → Prop) (h1 : ∀ w', Inv w' → K a' w')
    (h2 : c.wpIn F n P (Exit.then (fun a w => a = a' ∧ Inv w) (fun _ _ _ => False)) a w) : c.wpIn F n P (Exit.then K X) a w :=
  Go.wpIn_mono h2 fun e a w h => by
    cases e with
    | normal => obtain ⟨rfl, h⟩ := h; exact h1 w h
    | _ => exact h.elim
theorem region_calm {F : Fence} {n : Nat} {P : Program} {c : Code} {K : Act → World → Prop} {X : Exit → Act → World → Prop} {a : Act} {w : World} (h : c.wpIn F n P (Exit.then K (fun _ _ _ => False)) a w) : c.wpIn F n P (Exit.then K X) a w :=
  Go.wpIn_mono h fun e a w h => by cases e <;> first | exact h | exact h.elim
theorem res100 (tmps : Array Value) (w : World) : (results Tryd.f100 tmps).run Tryd.prog w = .ok (.tuple #[tmps.getD 4 undef, tmps.getD 5 undef, tmps.getD 6 undef]) w := by
  simp [results, Tryd.f100, go_sem]
theorem compl_bits {s : Nat} (hs : s < 18446744073709551616) : Go.bits BinOp.xor IntKind.u64 IntKind.u64.max (s : Int) = ((18446744073709551615 - s : Nat) : Int) := by
  have hx : bw .xor .u64 ((18446744073709551615 : Nat) : Int) (s : Int) = ((18446744073709551615 ^^^ s : Nat) : Int) :=
    bwN (op := .xor) (f := fun a b => a ^^^ b) (fun a b ha hb => Nat.xor_lt_two_pow (n := 64) ha hb) (fun a b ha hb => by
      show (BitVec.ofNat 64 a ^^^ BitVec.ofNat 64 b).toNat = _
      simp [BitVec.toNat_xor, Nat.mod_eq_of_lt ha, Nat.mod_eq_of_lt hb]) _ _ (by omega) hs
  refine hx.trans ?_
  congr 1
  apply Nat.eq_of_testBit_eq
  intro i
  have h1 := Nat.testBit_two_pow_sub_one 64 i
  have h2 := Nat.testBit_two_pow_sub_succ (n := 64) (x := s) (by omega) i
  rw [Nat.testBit_xor, show (18446744073709551615 : Nat) = 2 ^ 64 - 1 from rfl, h1, show (2 : Nat) ^ 64 - 1 - s = 2 ^ 64 - (s + 1) by omega, h2]
  by_cases hi : i < 64
  · simp [hi]
  · have : s.testBit i = false := Nat.testBit_lt_two_pow (Nat.lt_of_lt_of_le (show s < 2 ^ 64 by omega) (Nat.pow_le_pow_right (by omega) (by omega)))
    simp [hi, this]
theorem bitI_nat (s i : Nat) : bitI (s : Int) i = s.testBit i := by
  unfold bitI
  rw [Nat.testBit_eq_decide_div_mod_eq]
  congr 1
  rw [show ((s : Int) / 2 ^ i) = ((s / 2 ^ i : Nat) : Int) by simp]
  simp only [eq_iff_iff]; omega
theorem bitsL_compl {s : Nat} (hs : s < 18446744073709551616) : bitsL (18446744073709551615 - s) = freeL (s : Int) := by
  unfold bitsL freeL
  refine List.filter_congr fun i hi => ?_
  have hi : i < 64 := by simpa using hi
  have h2 := Nat.testBit_two_pow_sub_succ (n := 64) (x := s) (by omega) i
  rw [show (18446744073709551615 : Nat) - s = 2 ^ 64 - (s + 1) by omega, h2, bitI_nat]
  simp [hi]
theorem freeL_len (s : Nat) : (freeL (s : Int)).length = 64 - cntW (s : Int) := by
  unfold freeL cntW
  rw [filter_cnt, filter_cnt]
  have := cntP_not (bitI (s : Int)) 64
  omega
theorem orL_snoc (s : Nat) (l : List Nat) (i : Nat) : orL s (l ++ [i]) = orL s l ||| 2 ^ i := by simp [orL]
theorem orL_lt {s : Nat} (hs : s < 18446744073709551616) : ∀ l : List Nat, (∀ i ∈ l, i < 64) → orL s l < 18446744073709551616 := by
  intro l
  induction l generalizing s with
  | nil => intro _; exact hs
  | cons i l ih =>
    intro h
    refine ih ?_ fun j hj => h j (List.mem_cons_of_mem _ hj)
    have h2 : (2 : Nat) ^ i < 2 ^ 64 := Nat.pow_lt_pow_right (by omega) (h i (List.mem_cons_self ..))
    exact Nat.or_lt_two_pow (n := 64) hs h2
theorem or_walk {a b : Nat} (ha : a < 18446744073709551616) (hb : b < 18446744073709551616) : Go.bits BinOp.or IntKind.u64 (a : Int) (b : Int) = ((a ||| b : Nat) : Int) := bw_or64 _ _ ha hb
theorem bitsL_lt {x i : Nat} (h : i ∈ bitsL x) : i < 64 := by
  unfold bitsL at h
  simp only [List.mem_filter, List.mem_range] at h
  exact h.1
/-- What the loop keeps. -/
def takeI (w : World) (s : Nat) (n : Int) (N0 Bo : Nat) (pre : List Nat) (W : World) : Prop :=
  Blw w.heap.size w W ∧ N0 ≤ W.heap.size ∧ Boxed W w.heap.size 74 (.int .u64 (orL s pre : Int)) ∧ Boxed W (w.heap.size + 1) 3 (.int .i64 n) ∧ pre.length ≤ n.toNat ∧ ∃ v, Boxed W Bo 32 v ∧ W.ownsRow N0 3 1 v pre.length (pre.map fun (i : Nat) => Value.int .i64 (i : Int))
theorem Boxed.putObj {A : World} {B : Nat} {t : TypeId} {v : Value} (h : Boxed A B t v) {l : Nat} {o o' : Obj} (hl : A.heap[l]? = some o) (ho : o.isCells = false) : Boxed (A.putObj l o') B t v := by
  have hne : B ≠ l := fun e => by
    rw [e] at h
    rw [show A.heap[l]? = _ from h] at hl
    cases hl; cases ho
  exact (World.putObj_heap_other hne).trans h
theorem ownsRow_base {W : World} {b b' : Nat} {e : TypeId} {size : Nat} {v : Value} {k : Nat} {xs : List Value} (h : W.ownsRow b e size v k xs) (hb : b' ≤ b) : W.ownsRow b' e size v k xs := by
  refine ⟨h.1, ?_⟩
  rcases h.2 with h | ⟨g, cap, cur, h1, h2, h3⟩
  · exact .inl h
  · exact .inr ⟨g, cap, cur, h1, by omega, h3⟩
theorem ownsRow_form {W : World} {b : Nat} {e : TypeId} {size : Nat} {v : Value} {k : Nat} {xs : List Value} (h : W.ownsRow b e size v k xs) : ∃ ad cap, v = .slice ad k cap := by
  rcases h.2 with ⟨rfl, rfl⟩ | ⟨g, cap, cur, rfl, _⟩
  · exact ⟨_, _, rfl⟩
  · exact ⟨_, _, rfl⟩
theorem keeps_blw {A B : World} (h : Blw A.heap.size A B) : KeepsOthers A B := ⟨h.size, fun j o ho _ => (h.block j (Array.getElem?_eq_some_iff.1 ho).1).trans ho⟩
theorem takeI_cl (w : World) (s : Nat) (n : Int) (N0 Bo n0 : Nat) (hn : w.heap.size ≤ n0) : Cl n0 (takeI w s n N0 Bo) := by
  constructor
  · rintro pre A o ho ⟨h1, h2, h3, h4, h5, v, h6, h7⟩
    refine ⟨⟨h1.toBelow.alloc h1.size o, fun a => (fz_alloc A o (fun _ _ _ e => by subst e; cases ho) a).trans (h1.fz a)⟩, by simp; omega, h3.alloc _, h4.alloc _, h5, v, h6.alloc _, h7.alloc _⟩
  · rintro pre A l o o' hl ⟨h1, h2, h3, h4, h5, v, h6, h7⟩ hlo ho ho'
    refine ⟨⟨⟨h1.os, h1.tape, h1.output, Nat.le_trans h1.size (grownBy_putObj' A l o').size, fun k hk => (World.putObj_heap_other (by omega)).trans (h1.block k hk)⟩, fun a => (fz_putObj A o' hlo ho ho' a).trans (h1.fz a)⟩, Nat.le_trans h2 (grownBy_putObj' A l o').size, Boxed.putObj h3 hlo ho, Boxed.putObj h4 hlo ho, h5, v, Boxed.putObj h6 hlo ho, ownsRow_putObj h7 _ hlo ho⟩
set_option maxRecDepth 100000 in
set_option maxHeartbeats 4000000 in
theorem take_in (hcn : ConOK Tryd.prog 95 c_seats_Count) (hbt : ConOK Tryd.prog 120 c_seats_bit) (s : Nat) (hs : s < 18446744073709551616) (n : Int) (hn : -9223372036854775808 ≤ n ∧ n ≤ 9223372036854775807) (w : World) (hg : GOK Tryd.prog w) :
    CallsIn Fence.wide 10 Tryd.prog 100 #[.int .u64 (s : Int), .int .i64 n] w fun e W' => ∃ z, e = .returned z ∧ Blw w.heap.size w W' ∧
      (n < 0 → z = .tuple #[.slice none 0 0, .int .u64 0, .int .i64 1]) ∧ (0 ≤ n → 64 - cntW (s : Int) < n → z = .tuple #[.slice none 0 0, .int .u64 0, .int .i64 18]) ∧
      (0 ≤ n → n ≤ 64 - cntW (s : Int) → takeRes W' w.heap.size z ((freeL (s : Int)).take n.toNat) (orL s ((freeL (s : Int)).take n.toNat))) := by
  refine callsIn_of_wp_marks Tryd.func100 rfl trivial ?_ rfl
  simp only [Tryd.ntmps100, List.size_toArray, List.length_cons, List.length_nil, Nat.reduceAdd, Nat.reduceSub, Array.replicate_succ, Array.replicate_zero, List.push_toArray, List.append_toArray, List.nil_append, List.cons_append]
  have hmx : Tryd.prog.follows .mixedOrders = true := by kernel_rfl
  gi_wp2
  · exact ⟨_, res100 _ _, _, rfl, ⟨((Below.refl _ w).alloc (Nat.le_refl _) _).alloc (by simp) _, fun a => (fz_alloc _ _ (fun _ _ _ h => by cases h; rfl) a).trans (fz_alloc _ _ (fun _ _ _ h => by cases h; rfl) a)⟩, fun _ => rfl, fun h => absurd h (by omega), fun h => absurd h (by omega)⟩
  · have bS : Boxed ((w.alloc (.cells #[.int .u64 (s : Int)] 74)).alloc (.cells #[.int .i64 n] 3)) w.heap.size 74 (.int .u64 (s : Int)) := (Boxed.new w 74 _).alloc _
    have bN : Boxed ((w.alloc (.cells #[.int .u64 (s : Int)] 74)).alloc (.cells #[.int .i64 n] 3)) (w.heap.size + 1) 3 (.int .i64 n) := by
      have := Boxed.new (w.alloc (.cells #[.int .u64 (s : Int)] 74)) 3 (.int .i64 n)
      rwa [World.size_alloc] at this
    have b0 : Blw w.heap.size w ((w.alloc (.cells #[.int .u64 (s : Int)] 74)).alloc (.cells #[.int .i64 n] 3)) := ⟨((Below.refl _ w).alloc (Nat.le_refl _) _).alloc (by simp) _, fun a => (fz_alloc _ _ (fun _ _ _ h => by cases h; rfl) a).trans (fz_alloc _ _ (fun _ _ _ h => by cases h; rfl) a)⟩
    generalize hW2 : (w.alloc (.cells #[.int .u64 (s : Int)] 74)).alloc (.cells #[.int .i64 n] 3) = W2 at *
    have hlt2 : w.heap.size + 2 ≤ W2.heap.size := by rw [← hW2]; simp
    have c1 := bS.cell
    have c2 := bN.cell
    have hg2 : GOK Tryd.prog W2 := hg.blw b0 (Nat.le_refl _)
    have hcw := cntW_le (s : Int)
    have hwr : IntKind.i64.wrap (64 - cntW (s : Int)) = 64 - cntW (s : Int) := i64_in _ (by omega)
    refine region_key { tmps := #[.int .u64 (s : Int), .int .i64 n, .pointer (some ⟨w.heap.size, 0, none⟩), .pointer (some ⟨w.heap.size + 1, 0, none⟩), .slice none 0 0, .int .u64 0, .int .i64 0, undef, undef, .bool (decide (n < 0)), .int .i64 n, .bool (decide (n < 0)), .bool (decide ((64 - cntW (s : Int)) < n)), .int .i64 n, .int .u64 (s : Int), .int .i64 (cntW (s : Int)), .int .i64 ((64 - cntW (s : Int))), .bool (decide ((64 - cntW (s : Int)) < n)), undef, undef, undef, undef, undef, undef, undef, undef, undef, undef, undef, undef, undef, undef, undef, undef, undef, undef], defers := [] }
      (fun w' => Blw w.heap.size w w' ∧ Boxed w' w.heap.size 74 (.int .u64 (s : Int)) ∧ Boxed w' (w.heap.size + 1) 3 (.int .i64 n)) ?_ ?_
    rotate_left
    · gi_region_with_o (refine ⟨trivial, ?_⟩; gi_at_call 95; refine (count_calls hcn s hs W2.drew hg2).mono ?_; rintro e w' ⟨rfl, hb⟩; have bS3 : Boxed w' w.heap.size 74 (.int .u64 (s : Int)) := (hb.block _ (show w.heap.size < W2.heap.size by omega)).trans bS; have bN3 : Boxed w' (w.heap.size + 1) 3 (.int .i64 n) := (hb.block _ (show w.heap.size + 1 < W2.heap.size by omega)).trans bN; have b3 : Blw w.heap.size w w' := (b0.trans ⟨(Below.refl _ W2).drew, fun _ => rfl⟩).trans (hb.mono (show w.heap.size ≤ W2.heap.size by omega)); have c3 := bS3.cell; have c4 := bN3.cell)
      all_goals exact ⟨rfl, b3, bS3, bN3⟩
    rintro w' ⟨b3, bS3, bN3⟩
    have c3 := bS3.cell
    have c4 := bN3.cell
    have bS4 := bS3.alloc (.cells #[.slice none 0 0] 32)
    have c5 := bS4.cell
    gi_wp2_with (refine ⟨trivial, ?_⟩; gi_at_call 119; refine (each_in Fence.wide 9 trivial rfl _ _).mono ?_; rintro e w2 ⟨rfl, rfl⟩)
    · exact ⟨_, res100 _ _, _, rfl, b3, fun h => absurd h (by omega), fun _ _ => rfl, fun _ h => absurd h (by omega)⟩
    · rw [compl_bits hs]
      have hle : w.heap.size + 2 ≤ w'.heap.size := by have := bN3.lt; omega
      have bS5 := bS4.alloc (.cells #[.int .u64 ((18446744073709551615 - s : Nat) : Int)] 74)
      have bN5 := (bN3.alloc (.cells #[.slice none 0 0] 32)).alloc (.cells #[.int .u64 ((18446744073709551615 - s : Nat) : Int)] 74)
      have bO5 := (Boxed.new w' 32 (.slice none 0 0)).alloc (.cells #[.int .u64 ((18446744073709551615 - s : Nat) : Int)] 74)
      have bE5 := Boxed.new (w'.alloc (.cells #[.slice none 0 0] 32)) 74 (.int .u64 ((18446744073709551615 - s : Nat) : Int))
      rw [World.size_alloc] at bE5
      have hB5 : Blw w.heap.size w ((w'.alloc (.cells #[.slice none 0 0] 32)).alloc (.cells #[.int .u64 ((18446744073709551615 - s : Nat) : Int)] 74)) := ⟨(b3.toBelow.alloc b3.size _).alloc (by simp; exact Nat.le_succ_of_le b3.size) _, fun a => ((fz_alloc _ _ (fun _ _ _ h => by cases h; rfl) a).trans (fz_alloc _ _ (fun _ _ _ h => by cases h; rfl) a)).trans (b3.fz a)⟩
      have hsz : ((w'.alloc (.cells #[.slice none 0 0] 32)).alloc (.cells #[.int .u64 ((18446744073709551615 - s : Nat) : Int)] 74)).heap.size = w'.heap.size + 2 := by simp
      generalize (w'.alloc (.cells #[.slice none 0 0] 32)).alloc (.cells #[.int .u64 ((18446744073709551615 - s : Nat) : Int)] 74) = W0 at *
      obtain ⟨i0, hi, hz0, hz1, hz2⟩ := info_parts (show (Tryd.prog.info? 3).map (fun i => (i.zero, i.size, i.bytes)) = some (some (.int .i64 0), 1, 8) by kernel_rfl)
      refine rangeFunc_box (n := 10) rfl (by omega) (gf := 122) (lb := #[.pointer (some ⟨w'.heap.size + 1, 0, none⟩)]) rfl trivial (enters_of Tryd.func122 (by kernel_rfl) rfl) (encs := fun x : Nat => #[Value.int .i64 (x : Int)]) (Be := w'.heap.size + 1) (tB := 74) (xB := .int .u64 ((18446744073709551615 - s : Nat) : Int)) (G := GOK Tryd.prog) (xs := bitsL (18446744073709551615 - s)) (fun _ => rfl)
        (fun l J Jx W hJ hG hY hB h0 => each1_in Fence.wide 9 trivial trivial rfl (by omega) l (w'.heap.size + 1) _ (by omega) J Jx hJ hG hY W hB h0)
        bE5 (takeI w s n W0.heap.size w'.heap.size) (fun c pre W => c = .exit 1 ∧ ∃ (pre0 : List Nat) (x : Nat), pre = pre0 ++ [x] ∧ pre0.length = n.toNat ∧ takeI w s n W0.heap.size w'.heap.size pre0 W)
        (takeI_cl w s n _ _ _ (by omega)) (fun c => ⟨fun pre A o ho ⟨h1, pre0, x, h2, h3, h4⟩ => ⟨h1, pre0, x, h2, h3, (takeI_cl w s n _ _ W0.heap.size (by omega)).alloc _ _ _ ho h4⟩, fun pre A l o o' hl ⟨h1, pre0, x, h2, h3, h4⟩ hlo ho ho' => ⟨h1, pre0, x, h2, h3, (takeI_cl w s n _ _ W0.heap.size (by omega)).putObj _ _ _ _ _ hl h4 hlo ho ho'⟩⟩)
        ?set (fun pre A h => hg.blw h.1 (Nat.le_refl _)) ⟨hB5, Nat.le_refl _, bS5, bN5, by simp, _, bO5, World.ownsRow_nil _ _ _ _⟩
        (fun x => { tmps := #[.int .u64 (s : Int), .int .i64 n, .pointer (some ⟨w.heap.size, 0, none⟩), .pointer (some ⟨w.heap.size + 1, 0, none⟩), .slice none 0 0, .int .u64 0, .int .i64 0, .pointer (some ⟨w'.heap.size, 0, none⟩), .int .i64 (x : Int), .bool (decide (n < 0)), .int .i64 n, .bool (decide (n < 0)), .bool (decide ((64 - cntW (s : Int)) < n)), .int .i64 n, .int .u64 (s : Int), .int .i64 (cntW (s : Int)), .int .i64 (64 - cntW (s : Int)), .bool (decide ((64 - cntW (s : Int)) < n)), .int .u64 (s : Int), .int .u64 ((18446744073709551615 - s : Nat) : Int), .func (.func 122) #[] #[.pointer (some ⟨w'.heap.size + 1, 0, none⟩)], .int .i64 (x : Int), undef, undef, undef, undef, undef, undef, undef, undef, undef, undef, undef, undef, undef, undef], defers := [] })
        ?assign ?body ?done ?stop
      case set =>
        rintro pre A x v ⟨h1, h2, h3, h4, h5, v', h6, h7⟩ hb
        have oth : ∀ {B : Nat} {t : TypeId} {u : Value}, B ≠ w'.heap.size + 1 → Boxed A B t u → Boxed (A.setCell ⟨w'.heap.size + 1, 0, none⟩ v) B t u := fun hne h => (Below.heap_setCell _ _ _ _ hne).trans h
        refine ⟨⟨h1.toBelow.setCell (p := ⟨w'.heap.size + 1, 0, none⟩) (show w.heap.size ≤ w'.heap.size + 1 by omega) _, fun a => (fz_set _ _ _ a).trans (h1.fz a)⟩, Nat.le_trans h2 (grownBy_setCell' A _ v).size, oth (by omega) h3, oth (by omega) h4, h5, v', oth (by omega) h6, h7.kept (grownBy_setCell' A _ v) ?_⟩
        rcases h7.2 with ⟨rfl, _⟩ | ⟨g, cap, cur, rfl, hbg, _⟩
        · exact .inl rfl
        · exact .inr (by simp [Value.ownBlock]; omega)
      case assign =>
        intro l x W K hK
        gi_wp2
        exact hK
      case body =>
        rintro l pre x W ⟨h1, h2, h3, h4, h5, v, h6, h7⟩ hpre
        have hx64 : x < 64 := bitsL_lt (hpre.subset (List.mem_append.2 (.inr (by simp))))
        have hp64 : ∀ i ∈ pre, i < 64 := fun i hi => bitsL_lt (hpre.subset (List.mem_append.2 (.inl hi)))
        have hol := orL_lt hs pre hp64
        have hxp : (2 : Nat) ^ x < 18446744073709551616 := Nat.pow_lt_pow_right (by omega) hx64
        have hplen : pre.length ≤ 64 := by
          have := hpre.length_le
          have h2 : (bitsL (18446744073709551615 - s)).length ≤ 64 := by unfold bitsL; have := List.length_filter_le (fun i => (18446744073709551615 - s).testBit i) (List.range 64); simpa using this
          simp at this; omega
        have hml : (65 : Nat) ≤ maxLen := by decide
        obtain ⟨ad, cap, rfl⟩ := ownsRow_form h7
        have k3 := h3.cell
        have k4 := h4.cell
        have k6 := h6.cell
        have k3f := h3.frozen
        have k6f := h6.frozen
        gi_wp2_with (gi_at_builtin; refine wpListIn_append_fz _ rfl _ _ 32 rfl W0.heap.size 3 i0 (.int .i64 0) 1 8 Tryd.underlying32 hi hz0 hz1 hz2 rfl (by decide) _ _ _ rfl (h7.alloc _) ⟨W.heap.size, 0, none⟩ 1 1 [.int .i64 (x : Int)] rfl rfl (cell_one_new _ _ _) (by simp [Value.oneCell']) (by omega) (by omega) (by omega) (by simp; omega) ?_; intro v' w1 hown' hgrow _ hfz; obtain ⟨g', cap', rfl⟩ := ownsRow_succ hown'; obtain ⟨hv1, hv2, hr2, hk2, hb2⟩ := h6.appended (by decide) (ownsRow_base h7 (show w'.heap.size ≤ W0.heap.size by omega)) (by omega) (Nat.le_refl _) (ownsRow_base hown' (show w'.heap.size ≤ W0.heap.size by omega)) hgrow; have hB3 : Blw w'.heap.size W (w1.setCell ⟨w'.heap.size, 0, none⟩ (.slice (some ⟨g', 0, none⟩) (pre.length + 1) cap')) := ⟨hb2, fun a => (fz_set _ _ _ a).trans ((hfz a).trans (fz_alloc _ _ (fun _ _ _ h => by cases h; rfl) a))⟩; clear hfz; have hc1 := hv1.cell; have hf1 := hv1.frozen)
        · refine ⟨KeepsOthers.refl _, rfl, pre, x, rfl, ?_, h1, h2, h3, h4, h5, _, h6, h7⟩
          have : ((pre.length : Int) == n) = true := by assumption
          have := eq_of_beq this
          omega
        · have hBe : (w1.setCell ⟨w'.heap.size, 0, none⟩ (.slice (some ⟨g', 0, none⟩) (pre.length + 1) cap')).heap[w'.heap.size + 1]? = W.heap[w'.heap.size + 1]? := by
            have hgr : World.grownBy _ w1 (Value.slice ad pre.length cap).ownBlock := hgrow
            refine (Below.heap_setCell _ _ _ _ (by simp)).trans ((hgr.block _ (by simp; omega) ?_).trans (Below.heap_alloc _ _ _ (by omega)))
            rcases h7.2 with ⟨e, _⟩ | ⟨g, cap2, cur, e, hbg, _⟩
            · rw [e]; simp [Value.ownBlock]
            · rw [e]; simp [Value.ownBlock]; omega
          have hne : pre.length ≠ n.toNat := fun e => by
            have : ((pre.length : Int) == n) = false := by assumption
            rw [beq_eq_false_iff_ne] at this
            omega
          have hr3 := hown'.kept (grownBy_setCell' w1 w'.heap.size (.slice (some ⟨g', 0, none⟩) (pre.length + 1) cap')) (.inr (hv1.not_row (by decide) hown').symm)
          have s3 := (hB3.block _ (show w.heap.size < w'.heap.size by omega)).trans h3
          have n3 := (hB3.block _ (show w.heap.size + 1 < w'.heap.size by omega)).trans h4
          have B3 : Blw w.heap.size w (w1.setCell ⟨w'.heap.size, 0, none⟩ (.slice (some ⟨g', 0, none⟩) (pre.length + 1) cap')) := h1.trans (hB3.mono (by omega))
          have sz3 : W0.heap.size ≤ (w1.setCell ⟨w'.heap.size, 0, none⟩ (.slice (some ⟨g', 0, none⟩) (pre.length + 1) cap')).heap.size := Nat.le_trans h2 hB3.size
          generalize w1.setCell ⟨w'.heap.size, 0, none⟩ (.slice (some ⟨g', 0, none⟩) (pre.length + 1) cap') = W3 at *
          have s3b : Boxed W3 w.heap.size 74 (.int .u64 (orL s pre : Int)) := s3
          have n3b : Boxed W3 (w.heap.size + 1) 3 (.int .i64 n) := n3
          have q1 := s3b.cell
          have q2 := s3b.frozen
          have B3d : Blw w.heap.size w W3.drew := B3.trans ⟨(Below.refl _ W3).drew, fun _ => rfl⟩
          have hg3 : GOK Tryd.prog W3.drew := hg.blw B3d (Nat.le_refl _)
          have fin : ∀ w4, Blw W3.heap.size W3.drew w4 → KeepsOthers W (w4.setCell ⟨w.heap.size, 0, none⟩ (.int .u64 (Go.bits BinOp.or IntKind.u64 (orL s pre : Int) (2 ^ x)))) ∧ (w4.setCell ⟨w.heap.size, 0, none⟩ (.int .u64 (Go.bits BinOp.or IntKind.u64 (orL s pre : Int) (2 ^ x)))).heap[w'.heap.size + 1]? = W.heap[w'.heap.size + 1]? ∧
              takeI w s n W0.heap.size w'.heap.size (pre ++ [x]) (w4.setCell ⟨w.heap.size, 0, none⟩ (.int .u64 (Go.bits BinOp.or IntKind.u64 (orL s pre : Int) (2 ^ x)))) := fun w4 hb4 => by
            have e2 : ((2 : Int) ^ x) = ((2 ^ x : Nat) : Int) := by simp
            rw [e2, or_walk hol hxp, ← orL_snoc]
            have s4 : Boxed w4 w.heap.size 74 (.int .u64 (orL s pre : Int)) := (hb4.block _ (show w.heap.size < W3.heap.size by omega)).trans s3b
            have n4 : Boxed w4 (w.heap.size + 1) 3 (.int .i64 n) := (hb4.block _ (show w.heap.size + 1 < W3.heap.size by omega)).trans n3b
            have o4 : Boxed w4 w'.heap.size 32 (.slice (some ⟨g', 0, none⟩) (pre.length + 1) cap') := (hb4.block _ (show w'.heap.size < W3.heap.size by omega)).trans hv2
            have hgl : g' < W3.heap.size := by
              rcases hr3.2 with ⟨e, _⟩ | ⟨g, cap2, cur, e, _, hgb, _⟩
              · cases e
              · cases e; exact (Array.getElem?_eq_some_iff.1 hgb).1
            have r4 : w4.ownsRow W0.heap.size 3 1 (.slice (some ⟨g', 0, none⟩) (pre.length + 1) cap') (pre.length + 1) ((pre.map fun (i : Nat) => Value.int .i64 (i : Int)) ++ [Value.int .i64 (x : Int)]) := by
              refine ⟨hr3.1, ?_⟩
              rcases hr3.2 with ⟨e, _⟩ | ⟨g, cap2, cur, e, k1, hgb, k2⟩
              · cases e
              · cases e
                exact .inr ⟨g', cap', cur, rfl, k1, (hb4.block _ hgl).trans hgb, k2⟩
            refine ⟨(hk2.trans (KeepsOthers.drew W3)).trans ((keeps_blw (A := W3.drew) hb4).trans (KeepsOthers.setCell _ _ _)), (Below.heap_setCell _ _ _ _ (by simp; omega)).trans ((hb4.block _ (show w'.heap.size + 1 < W3.heap.size by omega)).trans hBe), ?_⟩
            have b4 : Blw w.heap.size w w4 := B3d.trans (hb4.mono (by omega))
            refine ⟨⟨b4.toBelow.setCell (p := ⟨w.heap.size, 0, none⟩) (Nat.le_refl _) _, fun a => (fz_set _ _ _ a).trans (b4.fz a)⟩, Nat.le_trans (Nat.le_trans sz3 hb4.size) (grownBy_setCell' w4 _ _).size, s4.set _, (Below.heap_setCell _ _ _ _ (by simp)).trans n4, by simp; omega, _, (Below.heap_setCell _ _ _ _ (by simp; omega)).trans o4, ?_⟩
            have := r4.kept (grownBy_setCell' w4 w.heap.size (.int .u64 (orL s (pre ++ [x]) : Int))) (.inr (s4.not_row (by decide) r4).symm)
            simpa using this
          gi_region_with_o (refine ⟨trivial, ?_⟩; gi_at_call 120; refine (CallsIn.inRound l (bit_calls hbt x hx64 W3.drew hg3)).mono ?_; rintro e w4 ⟨rfl, hb4⟩; have s4 : Boxed w4 w.heap.size 74 (.int .u64 (orL s pre : Int)) := (hb4.block _ (show w.heap.size < W3.heap.size by omega)).trans s3b; have q3 := s4.cell; have q4 := s4.frozen)
          all_goals (gi_wp2; exact fin w4 hb4)
      case done =>
        rintro D W hT hK hD
        rw [bitsL_compl hs] at hT
        have hnn : 0 ≤ n := by omega
        have hlen := freeL_len s
        have h5' := hT.2.2.2.2.1
        have hall : (freeL (s : Int)).take n.toNat = freeL (s : Int) := List.take_of_length_le (by omega)
        obtain ⟨h1, h2, h3, h4, h5, v, h6, h7⟩ := hT
        obtain ⟨ad, cap, rfl⟩ := ownsRow_form h7
        have k3 := h3.cell
        have k6 := h6.cell
        gi_wp2
        refine region_calm ?_
        gi_region_with_o (fail)
        all_goals gi_wp2
        all_goals refine ⟨by simp, .inl ⟨_, _, rfl, run_takeDeferred (show W.drew.heap[D]? = _ from hK), ?_⟩⟩
        all_goals refine ⟨_, res100 _ _, _, rfl, ⟨⟨h1.os, h1.tape, h1.output, Nat.le_trans h1.size (grownBy_putObj' W.drew D (.deferred none)).size, fun k hk => (World.putObj_heap_other (by omega)).trans (h1.block k hk)⟩, fun a => (fz_putObj W.drew (.deferred none) hK rfl rfl a).trans (h1.fz a)⟩, fun h => absurd h (by omega), fun _ h => absurd h (by omega), fun _ _ => ?_⟩
        all_goals rw [hall]
        all_goals exact ⟨_, rfl, ownsRow_putObj (ownsRow_base h7 (by omega)) _ hK rfl⟩
      case stop =>
        rintro D c pre W hpre ⟨rfl, pre0, x, rfl, hl, hT⟩ hK hD
        rw [bitsL_compl hs] at hpre
        have hnn : 0 ≤ n := by omega
        have hall : (freeL (s : Int)).take n.toNat = pre0 := by
          obtain ⟨r, hr⟩ := hpre
          rw [← hr, ← hl]; simp
        clear hl
        obtain ⟨h1, h2, h3, h4, h5, v, h6, h7⟩ := hT
        obtain ⟨ad, cap, rfl⟩ := ownsRow_form h7
        have k3 := h3.cell
        have k6 := h6.cell
        gi_wp2
        refine region_calm ?_
        gi_region_with_o (fail)
        all_goals gi_wp2
        all_goals refine ⟨by simp, .inl ⟨_, _, rfl, run_takeDeferred (show W.drew.heap[D]? = _ from hK), ?_⟩⟩
        all_goals refine ⟨_, res100 _ _, _, rfl, ⟨⟨h1.os, h1.tape, h1.output, Nat.le_trans h1.size (grownBy_putObj' W.drew D (.deferred none)).size, fun k hk => (World.putObj_heap_other (by omega)).trans (h1.block k hk)⟩, fun a => (fz_putObj W.drew (.deferred none) hK rfl rfl a).trans (h1.fz a)⟩, fun h => absurd h (by omega), fun _ h => absurd h (by omega), fun _ _ => ?_⟩
        all_goals rw [hall]
        all_goals exact ⟨_, rfl, ownsRow_putObj (ownsRow_base h7 (by omega)) _ hK rfl⟩
theorem res_take {W : World} {im : Nat → Prop} {v : Value} {l : List Int} {s e : Int} {cs : List Value} (h1 : v = pk false cs) (h2 : Rd W im (.list .i) l cs) (hs : inKind .u64 s = true) (he : inKind .i64 e = true) :
    RV ⟨fun _ => none, W, im⟩ (resAV [.list .i, .int .u64, .i] (l, s, e, ())) (.tuple #[v, .int .u64 s, .int .i64 e]) := by
  refine ⟨[v, .int .u64 s, .int .i64 e], rfl, cs, _, ?_, h2, [.int .u64 s], _, rfl, Rd.int.2 ⟨rfl, hs⟩, [.int .i64 e], _, rfl, Rd.int.2 ⟨rfl, he⟩, rfl⟩
  rw [h1]; rfl
theorem row_ints {W : World} {base : Nat} {v : Value} {l : List Nat} (h : W.ownsRow base 3 1 v l.length (l.map fun (i : Nat) => Value.int .i64 (i : Int))) (hl : ∀ i ∈ l, i < 64) (hn : l.length ≤ 64) (im : Nat → Prop) (him : ∀ k, base ≤ k → k < W.heap.size → im k) :
    ∃ cs, v = pk false cs ∧ Rd W im (.list .i) (l.map fun (i : Nat) => (i : Int)) cs := by
  have hb : List.length (l.map fun (i : Nat) => (i : Int)) * Ty.bytes .i ≤ top := by
    rw [List.length_map]
    have : (64 : Nat) * Ty.bytes .i ≤ top := by decide
    exact Nat.le_trans (Nat.mul_le_mul_right _ hn) this
  rcases h.2 with ⟨rfl, h0⟩ | ⟨g, cap, cur, rfl, hbg, hg, hc, hcm, hsz, htk⟩
  · refine ⟨[.slice none 0 0], rfl, Rd.list.2 ⟨hb, .inl ⟨rfl, ?_⟩⟩⟩
    rw [List.length_eq_zero_iff.1 h0]; rfl
  · refine ⟨[.slice (some ⟨g, 0, none⟩) l.length cap], rfl, Rd.list.2 ⟨hb, .inr ⟨⟨g, 0, none⟩, cap, l.map fun (i : Nat) => [Value.int .i64 (i : Int)], by rw [List.length_map], fun _ => rfl, by rw [List.length_map]; exact hc, hcm, ?_, fun _ => him g hbg (Array.getElem?_eq_some_iff.1 hg).1, ?_⟩⟩⟩
    · clear h hn hb hc htk hsz
      induction l with
      | nil => trivial
      | cons i l ih =>
        refine ⟨Rd.int.2 ⟨rfl, ?_⟩, ih fun j hj => hl j (List.mem_cons_of_mem _ hj)⟩
        have := hl i (List.mem_cons_self ..)
        rw [inKind_iff]; show -9223372036854775808 ≤ (i : Int) ∧ (i : Int) ≤ 9223372036854775807; omega
    · intro j x hj
      have hfl : (l.map fun (i : Nat) => [Value.int .i64 (i : Int)]).flatten = l.map fun (i : Nat) => Value.int .i64 (i : Int) := by
        clear h hl hn hb hc htk hsz hj
        induction l with
        | nil => rfl
        | cons i l ih => simp [ih]
      rw [hfl, ← htk] at hj
      have hj2 : cur.toList[j]? = some x := by
        rw [List.getElem?_take] at hj
        split at hj
        · exact hj
        · cases hj
      have : cur[j]? = some x := by rw [← Array.getElem?_toList]; exact hj2
      simp [World.cell?, hg, this]
theorem ok_seats_Take_of (hcn : ConOK Tryd.prog 95 c_seats_Count) (hbt : ConOK Tryd.prog 120 c_seats_bit) : ConOK Tryd.prog 100 c_seats_Take := by
  refine ⟨FnOK.of Tryd.func100 rfl (by kernel_rfl), ?_, ?_⟩
  · decide
  · intro w I x xs y hg hI hx hxy
    obtain ⟨s, n, u⟩ := x
    change Int at s; change Int at n
    match xs, hx with
    | [a, b], hx =>
      obtain ⟨⟨c1, rfl, r1⟩, ⟨c2, rfl, r2⟩, _⟩ := hx
      obtain ⟨rfl, k1⟩ := Rd.int.1 r1
      obtain ⟨rfl, k2⟩ := Rd.int.1 r2
      rw [inKind_iff] at k1 k2
      have k1 : 0 ≤ s ∧ s ≤ 18446744073709551615 := k1
      have k2 : -9223372036854775808 ≤ n ∧ n ≤ 9223372036854775807 := k2
      obtain ⟨s, rfl⟩ : ∃ m : Nat, s = (m : Int) := ⟨s.toNat, by omega⟩
      have hs : s < 18446744073709551616 := by omega
      refine Calls.mono (callsIn_wide.1 (take_in hcn hbt s hs n k2 w hg)) ?_
      rintro e W ⟨z, rfl, hb, h1, h2, h3⟩
      refine ⟨z, rfl, hb, ?_⟩
      have hy : takeW (s : Int) n = (y.1, y.2.1, y.2.2.1) := by
        have : some ((takeW (s : Int) n).1, (takeW (s : Int) n).2.1, (takeW (s : Int) n).2.2, ()) = some y := hxy
        obtain rfl := Option.some.inj this
        rfl
      obtain ⟨yl, ys, ye, yu⟩ := y
      change takeW (s : Int) n = (yl, ys, ye) at hy
      unfold takeW at hy
      have hnil : ∀ im, Rd W im (.list .i) [] [.slice none 0 0] := fun im => Rd.list.2 ⟨by simp, .inl ⟨rfl, rfl⟩⟩
      by_cases hn : n < 0
      · rw [if_pos hn] at hy
        cases hy
        rw [h1 hn]
        exact res_take rfl (hnil _) (by decide) (by decide)
      · rw [if_neg hn] at hy
        by_cases hc : 64 - cntW (s : Int) < n
        · rw [if_pos hc] at hy
          cases hy
          rw [h2 (by omega) hc]
          exact res_take rfl (hnil _) (by decide) (by decide)
        · rw [if_neg hc] at hy
          cases hy
          obtain ⟨v, rfl, hr⟩ := h3 (by omega) (by omega)
          have hl64 : ∀ i ∈ (freeL (s : Int)).take n.toNat, i < 64 := fun i hi => by
            have := List.mem_of_mem_take hi
            unfold freeL at this
            simp only [List.mem_filter, List.mem_range] at this
            exact this.1
          have hlen : ((freeL (s : Int)).take n.toNat).length ≤ 64 := by
            have h1 := freeL_len s
            have h2 := List.length_take_le n.toNat (freeL (s : Int))
            have h3 := (cntW_le (s : Int)).1
            have h4 : ((freeL (s : Int)).take n.toNat).length ≤ (freeL (s : Int)).length := by rw [List.length_take]; omega
            omega
          obtain ⟨cs, e1, e2⟩ := row_ints hr hl64 hlen (fun k => k < W.heap.size ∧ (k < w.heap.size → I k)) (fun k a b => ⟨b, fun h => absurd h (by omega)⟩)
          have := orL_lt hs _ hl64
          refine res_take e1 e2 ?_ (by decide)
          rw [inKind_iff]; show 0 ≤ ((orL s _ : Nat) : Int) ∧ ((orL s _ : Nat) : Int) ≤ 18446744073709551615
          omega
end Go.Proofs.YtmjobjaajnjgjaaDoor
end

section
namespace Go.Proofs.YtmjobjaajnjgjaaDoor
open Go Go.Co Go.Co.N Go.Proofs Go.RowKit Go.Shelf Go.Lib
attribute [local go_sem] Oper.semAt_some

theorem fz_append2 {P : Program} {w : World} {base : Nat} {t ty e : TypeId} {i : TypeInfo} {z : Value} (ht : P.underlying t = some (.slice e)) (hi : P.info? e = some i) (hz : i.zero = some z)
    {v : Value} {n : Nat} {xs : List Value} (hown : w.ownsRow base e i.size v n xs) (hv : v ≠ .slice none 0 0) {a : Addr} {m c : Nat} {news : List Value} (hl : news.length = m * i.size) (hnews : ∀ j u, news[j]? = some u → w.cell? (a.add j) = some u) (h1 : ∀ u ∈ news, u.oneCell' = true)
    (h63 : n + m ≤ maxLen) (hbytes : (n + m) * i.bytes ≤ 140737488355328) {v' : Value} {w' : World} (hrun : (Builtin.append_ #[t, t] ty #[v, .slice (some a) m c]).run P w = .ok v' w') (b : Addr) : w'.frozen? b = w.frozen? b := by
  by_cases hm : 0 < m
  · exact fz_append ht hi hz hown hl hnews h1 hm h63 hbytes hrun b
  · rcases hown.2 with ⟨rfl, rfl⟩ | ⟨g, cap, cur, rfl, _, hg, hnc, _, hcs, _⟩
    · exact absurd rfl hv
    · have hroom : n + m ≤ cap := by omega
      have hfit : n * i.size + news.length ≤ cur.size := by rw [hl, hcs, ← Nat.add_mul]; exact Nat.mul_le_mul_right _ hroom
      rw [run_append_room (P := P) w t ty e i ht hi g n cap cur hg a m c news hl hnews h1 hroom hfit] at hrun
      cases hrun
      by_cases hb : b.block = g
      · have := setRow_heap w g cur (cur.toList.take (n * i.size) ++ news ++ cur.toList.drop (n * i.size + news.length)).toArray e (0, 0) hg
        unfold World.frozen?
        rw [hb, this, hg]
      · exact frozen_same (setRow_other w g b.block _ hb)
theorem wpListIn_append_fz2 {F : Fence} {k : Nat} {P : Program} (w : World) {ops : Array Oper} {rest : List Oper} {o : Oper} {a : Act} {Q : Exit → Act → World → Prop}
    (hg : o.guard = none) (s x : Operand) (t : TypeId) (hop : o.op = Op.call { callee := Callee.builtin Builtin.append, args := #[s, x], argTypes := #[t, t] })
    (base : Nat) (e : TypeId) (i : TypeInfo) (z : Value) (size bytes : Nat) (h1 : P.underlying t = some (.slice e)) (h2 : P.info? e = some i) (h3 : i.zero = some z) (h4 : i.size = size) (h5 : i.bytes = bytes) (h6 : z.cells.size = size) (h7 : 0 < size)
    (v : Value) (n : Nat) (xs : List Value) (hs : a.eval s = v) (hown : w.ownsRow base e size v n xs) (hv : v ≠ .slice none 0 0) (ad : Addr) (m c : Nat) (news : List Value) (hx : a.eval x = .slice (some ad) m c) (hn : news.length = m * size)
    (hc : ∀ j u, news[j]? = some u → w.cell? (ad.add j) = some u) (h1c : ∀ u ∈ news, u.oneCell' = true) (b1 : n + m ≤ maxLen) (b2 : (n + m) * bytes ≤ 140737488355328) (b3 : base ≤ w.heap.size)
    (hK : ∀ v' w', w'.ownsRow base e size v' (n + m) (xs ++ news) → w.grownBy w' v.ownBlock → (v' = .slice none 0 0 ↔ v = .slice none 0 0 ∧ m = 0) → (∀ b, w'.frozen? b = w.frozen? b) → wpListIn F k P ops Q rest (a.put o.dst v') w') :
    wpListIn F k P ops Q (o :: rest) a w := by
  refine wpListIn_plain hg fun K hK' => ?_
  obtain ⟨v', w', hrun, r1, r2, r3⟩ := run_append_own (P := P) w base t o.type e i z size bytes h1 h2 h3 h4 h5 h6 h7 v n xs hown ad m c news hn hc h1c b1 b2 b3
  subst h4; subst h5
  have hz := fun b => fz_append2 h1 h2 h3 hown hv hn hc h1c b1 b2 hrun b
  unfold Oper.wpIn
  refine ⟨?_, ?_⟩
  · simp [Oper.about, hop, resolve, Target.leads, Sem.run_pure]
  · rw [Oper.semAt_plain F _ _ (by rw [hop]; intro c hc'; cases hc')]
    simp [execOp, hop, resolve, invoke, builtin, hs, hx, hrun, Result.andThen]
    exact hK' _ _ (hK v' w' r1 r2 r3 hz)
set_option maxHeartbeats 2000000 in
set_option maxRecDepth 100000 in
theorem clone_in (ad : Addr) (n c : Nat) (vs : List Value) (w : World) (hn : vs.length = n) (hbig : n * 8 ≤ 140737488355328) (h1 : ∀ u ∈ vs, u.oneCell' = true) (hc : ∀ j u, vs[j]? = some u → w.cell? (ad.add j) = some u) :
    CallsIn Fence.wide 0 Tryd.prog 23 #[.slice (some ad) n c] w fun e w' => ∃ v', e = .returned v' ∧ w'.ownsRow w.heap.size 3 1 v' n vs ∧ Blw w.heap.size w w' := by
  obtain ⟨i0, hi, hz0, hz1, hz2⟩ := info_parts (P := Tryd.prog) (e := 3) (z := .int .i64 0) (size := 1) (bytes := 8) (by kernel_rfl)
  have hmx : Tryd.prog.follows .mixedOrders = true := by kernel_rfl
  have q32 : ∀ (w : World) (a : Option Addr) (n c n' c' : Nat), (binOp .eql 32 (.slice a n c) (.slice none n' c')).run Tryd.prog w = .ok (.bool a.isNone) w := fun w a n c n' c' => Lib.run_eql_slice_nil w _ _ a n c n' c' Tryd.underlying32
  have A : Aside (∀ j u, vs[j]? = some u → w.cell? (ad.add j) = some u) := hc
  clear hc
  refine callsIn_of_wp Tryd.func23 rfl trivial ?_ rfl
  simp only [Tryd.ntmps23, List.size_toArray, List.length_cons, List.length_nil, Nat.reduceAdd, Nat.reduceSub, Array.replicate_succ, Array.replicate_zero, List.push_toArray, List.append_toArray, List.nil_append, List.cons_append]
  gi_wp2_with (gi_at_builtin; refine wpListIn_append_fz2 _ rfl _ _ 32 rfl w.heap.size 3 i0 (.int .i64 0) 1 8 Tryd.underlying32 hi hz0 hz1 hz2 rfl (by decide) _ _ _ rfl (World.ownsRow_made w #[] 0 (Nat.le_refl _) (Nat.zero_le _) rfl) (fun h => (by have h : Value.slice (some ⟨w.heap.size, 0, none⟩) 0 0 = .slice none 0 0 := h; cases h)) ad n c vs rfl ?qc1 ?qc2 ?qc3 ?qc4 ?qc5 ?qc6 ?_)
  case qc1 => omega
  case qc2 => intro j u hj; exact Lib.cell?_alloc_some _ (A.out j u hj)
  case qc3 => exact h1
  case qc4 => unfold maxLen; omega
  case qc5 => omega
  case qc6 => simp
  intro v' w1 hown hgrow hnil hfz
  gi_wp2
  go_ret
  refine ⟨v', rfl, by simpa using hown, ⟨?_, fun a => ?_⟩⟩
  · exact ((Below.refl _ w).alloc (Nat.le_refl _) _).grown hgrow (by simp) (by intro k hk; simp [Value.ownBlock] at hk; omega)
  · exact (hfz a).trans (fz_alloc _ _ (fun _ _ _ h => by cases h; rfl) a)
set_option maxHeartbeats 1000000 in
theorem clone_nil_in (n c : Nat) (w : World) : CallsIn Fence.wide 0 Tryd.prog 23 #[.slice none n c] w fun e w' => e = .returned (.slice none 0 0) ∧ w' = w := by
  have q32 : ∀ (w : World) (a : Option Addr) (n c n' c' : Nat), (binOp .eql 32 (.slice a n c) (.slice none n' c')).run Tryd.prog w = .ok (.bool a.isNone) w := fun w a n c n' c' => Lib.run_eql_slice_nil w _ _ a n c n' c' Tryd.underlying32
  refine callsIn_of_wp Tryd.func23 rfl trivial ?_ rfl
  simp only [Tryd.ntmps23, List.size_toArray, List.length_cons, List.length_nil, Nat.reduceAdd, Nat.reduceSub, Array.replicate_succ, Array.replicate_zero, List.push_toArray, List.append_toArray, List.nil_append, List.cons_append]
  gi_wp2
  go_ret
  exact ⟨rfl, rfl⟩
theorem row_rd {W W2 : World} {im2 : Nat → Prop} {base : Nat} {v : Value} {l : List Int} {css : List (List Value)} (h : W.ownsRow base 3 1 v l.length css.flatten) (hb : l.length * 8 ≤ 140737488355328) (hall : All2 (Rd W2 im2 .i) l css) (im : Nat → Prop) (him : ∀ k, base ≤ k → k < W.heap.size → im k) :
    ∃ cs, v = pk false cs ∧ Rd W im (.list .i) l cs := by
  have hb : List.length l * Ty.bytes .i ≤ top := hb
  rcases h.2 with ⟨rfl, h0⟩ | ⟨g, cap, cur, rfl, hbg, hg, hc, hcm, hsz, htk⟩
  · refine ⟨[.slice none 0 0], rfl, Rd.list.2 ⟨hb, .inl ⟨rfl, ?_⟩⟩⟩
    exact List.length_eq_zero_iff.1 h0
  · refine ⟨[.slice (some ⟨g, 0, none⟩) l.length cap], rfl, Rd.list.2 ⟨hb, .inr ⟨⟨g, 0, none⟩, cap, css, rfl, fun _ => rfl, hc, hcm, hall.mono fun x c hr => Rd.nolist .i x c rfl hr, fun _ => him g hbg (Array.getElem?_eq_some_iff.1 hg).1, ?_⟩⟩⟩
    intro j x hj
    rw [← htk] at hj
    have hj2 : cur.toList[j]? = some x := by
      rw [List.getElem?_take] at hj
      split at hj
      · exact hj
      · cases hj
    have : cur[j]? = some x := by rw [← Array.getElem?_toList]; exact hj2
    simp [World.cell?, hg, this]
theorem ok_slices_Clone : ConOK Tryd.prog 23 c_slices_Clone := by
  refine ⟨FnOK.of Tryd.func23 rfl (by kernel_rfl), ?_, ?_⟩
  · decide
  · intro w I x xs y hg hI hx hxy
    obtain ⟨l, u⟩ := x
    change List Int at l
    match xs, hx with
    | [a], hx =>
      obtain ⟨⟨cs, rfl, r⟩, _⟩ := hx
      have hy : y = (l, ()) := by
        have : some (l, ()) = some y := hxy
        exact (Option.some.inj this).symm
      subst hy
      obtain ⟨hb, r⟩ := Rd.list.1 r
      have hb : l.length * 8 ≤ 140737488355328 := hb
      rcases r with ⟨rfl, rfl⟩ | ⟨a, cap, css, rfl, hs, hle, hcm, hall, him, hc⟩
      · refine Calls.mono (callsIn_wide.1 (clone_nil_in 0 0 w)) ?_
        rintro e W ⟨rfl, rfl⟩
        exact ⟨_, rfl, Blw.refl _ _, [.slice none 0 0], rfl, Rd.list.2 ⟨by simp, .inl ⟨rfl, rfl⟩⟩⟩
      · have hfl := flatten_len (n := 1) (show ∀ c ∈ css, c.length = 1 from hall.lens)
        have hlen : css.flatten.length = l.length := by rw [hfl, hall.length]; omega
        have hcells : ∀ j u, css.flatten[j]? = some u → w.cell? (a.add j) = some u := fun j u hu => by
          have hne : l ≠ [] := fun h => by
            have := (List.getElem?_eq_some_iff.1 hu).1
            rw [hlen, h] at this
            simp at this
          have h2 := hc j u hu
          have h3 := hs hne
          obtain ⟨bk, of, sp⟩ := a
          simp only at h3
          subst h3
          rw [Addr.add_lit]; exact h2
        refine Calls.mono (callsIn_wide.1 (clone_in a l.length cap css.flatten w hlen hb hall.ones hcells)) ?_
        rintro e W ⟨v', rfl, hown, hblw⟩
        obtain ⟨cs', h1, h2⟩ := row_rd hown hb hall (fun k => k < W.heap.size ∧ (k < w.heap.size → I k)) (fun k h1 h2 => ⟨h2, fun h3 => absurd h3 (by omega)⟩)
        exact ⟨v', rfl, hblw, cs', h1, h2⟩
end Go.Proofs.YtmjobjaajnjgjaaDoor
end

section
namespace Go.Proofs.YtmjobjaajnjgjaaDoor
open Go Go.Co Go.Co.N Go.Proofs
noncomputable def L_key_Good : List (Nat × LD) := []
noncomputable def Ls_key_Good : List (Nat × List (Nat × LD)) := []
noncomputable def B_key_Good : Bodies := []
theorem run_key_Good (x : denL [(.st .key)]) : run [] L_key_Good Ls_key_Good B_key_Good Tryd.f101 [(.st .key)] [.bool] x = g_key_Good x := by kernel_rfl
theorem ok_key_Good : ConOK Tryd.prog 101 c_key_Good := con_ok (ConsOK.nil) L_key_Good Ls_key_Good (B := B_key_Good) (BodiesOK.nil) Tryd.func101 rfl fun x y hf h => (run_key_Good x).trans (eq_key_Good x y hf h)
noncomputable def L_ref02_Good : List (Nat × LD) := []
noncomputable def Ls_ref02_Good : List (Nat × List (Nat × LD)) := []
noncomputable def B_ref02_Good : Bodies := []
theorem run_ref02_Good (x : denL [(.st .key)]) : run [] L_ref02_Good Ls_ref02_Good B_ref02_Good Tryd.f107 [(.st .key)] [.bool] x = g_ref02_Good x := by kernel_rfl
theorem ok_ref02_Good : ConOK Tryd.prog 107 c_ref02_Good := con_ok (ConsOK.nil) L_ref02_Good Ls_ref02_Good (B := B_ref02_Good) (BodiesOK.nil) Tryd.func107 rfl fun x y hf h => (run_ref02_Good x).trans (eq_ref02_Good x y hf h)
noncomputable def L_ref02_Ahead : List (Nat × LD) := [(6, ⟨⟨[(1, .hole .i), (2, .ptr 0 []), (4, .ptr 1 []), (6, .hole .i)], [(0, (.st .key), .hole (.st .key)), (1, (.st .key), .hole (.st .key))], []⟩, [(.exit 0, ⟨[(2, .ptr 0 []), (4, .ptr 1 [])], [(0, (.st .key), .hole (.st .key)), (1, (.st .key), .hole (.st .key))], []⟩)], 10, []⟩)]
noncomputable def Ls_ref02_Ahead : List (Nat × List (Nat × LD)) := []
noncomputable def B_ref02_Ahead : Bodies := []
theorem run_ref02_Ahead (x : denL [(.st .key), .i]) : run [(107, c_ref02_Good)] L_ref02_Ahead Ls_ref02_Ahead B_ref02_Ahead Tryd.f87 [(.st .key), .i] [(.st .key), .i] x = g_ref02_Ahead x := by kernel_rfl
theorem ok_ref02_Ahead : ConOK Tryd.prog 87 c_ref02_Ahead := con_ok (ConsOK.cons ok_ref02_Good (ConsOK.nil)) L_ref02_Ahead Ls_ref02_Ahead (B := B_ref02_Ahead) (BodiesOK.nil) Tryd.func87 rfl fun x y hf h => (run_ref02_Ahead x).trans (eq_ref02_Ahead x y hf h)
noncomputable def L_key_Ahead : List (Nat × LD) := []
noncomputable def Ls_key_Ahead : List (Nat × List (Nat × LD)) := []
noncomputable def B_key_Ahead : Bodies := []
theorem run_key_Ahead (x : denL [(.st .key), .i]) : run [(101, c_key_Good)] L_key_Ahead Ls_key_Ahead B_key_Ahead Tryd.f98 [(.st .key), .i] [(.st .key), .i] x = g_key_Ahead x := by kernel_rfl
theorem ok_key_Ahead : ConOK Tryd.prog 98 c_key_Ahead := con_ok (ConsOK.cons ok_key_Good (ConsOK.nil)) L_key_Ahead Ls_key_Ahead (B := B_key_Ahead) (BodiesOK.nil) Tryd.func98 rfl fun x y hf h => (run_key_Ahead x).trans (eq_key_Ahead x y hf h)
noncomputable def L_key_Seal : List (Nat × LD) := []
noncomputable def Ls_key_Seal : List (Nat × List (Nat × LD)) := []
noncomputable def B_key_Seal : Bodies := []
theorem run_key_Seal (x : denL [(.st .key), (.st .key)]) : run [(101, c_key_Good)] L_key_Seal Ls_key_Seal B_key_Seal Tryd.f74 [(.st .key), (.st .key)] [(.st .box), .i] x = g_key_Seal x := by kernel_rfl
theorem ok_key_Seal : ConOK Tryd.prog 74 c_key_Seal := con_ok (ConsOK.cons ok_key_Good (ConsOK.nil)) L_key_Seal Ls_key_Seal (B := B_key_Seal) (BodiesOK.nil) Tryd.func74 rfl fun x y hf h => (run_key_Seal x).trans (eq_key_Seal x y hf h)
noncomputable def L_ratchet_Check : List (Nat × LD) := [(3, ⟨⟨[(3, .mp 1), (7, .hole (.arr 21 (.st .key))), (8, .hole .i)], [], [(1, .i, .i)]⟩, [(.ret, ⟨[(2, .hole .i)], [], []⟩), (.exit 0, ⟨[], [], []⟩)], 11, []⟩)]
noncomputable def Ls_ratchet_Check : List (Nat × List (Nat × LD)) := []
noncomputable def B_ratchet_Check : Bodies := []
theorem run_ratchet_Check (x : denL [(.arr 21 (.st .key))]) : run [(101, c_key_Good)] L_ratchet_Check Ls_ratchet_Check B_ratchet_Check Tryd.f91 [(.arr 21 (.st .key))] [.i] x = g_ratchet_Check x := by kernel_rfl
theorem ok_ratchet_Check : ConOK Tryd.prog 91 c_ratchet_Check := con_ok (ConsOK.cons ok_key_Good (ConsOK.nil)) L_ratchet_Check Ls_ratchet_Check (B := B_ratchet_Check) (BodiesOK.nil) Tryd.func91 rfl fun x y hf h => (run_ratchet_Check x).trans (eq_ratchet_Check x y hf h)
noncomputable def L_ref10_Check : List (Nat × LD) := [(7, ⟨⟨[(1, .ptr 0 []), (3, .hole .i), (4, .hole .i)], [(0, (.arr 21 (.st .key)), .hole (.arr 21 (.st .key)))], []⟩, [(.ret, ⟨[(2, .hole .i)], [], []⟩), (.exit 2, ⟨[(1, .ptr 0 []), (3, .hole .i)], [(0, (.arr 21 (.st .key)), .hole (.arr 21 (.st .key)))], []⟩)], 10, []⟩), (2, ⟨⟨[(1, .ptr 0 []), (3, .hole .i)], [(0, (.arr 21 (.st .key)), .hole (.arr 21 (.st .key)))], []⟩, [(.ret, ⟨[(2, .hole .i)], [], []⟩), (.exit 0, ⟨[], [], []⟩)], 20, []⟩)]
noncomputable def Ls_ref10_Check : List (Nat × List (Nat × LD)) := []
noncomputable def B_ref10_Check : Bodies := []
theorem run_ref10_Check (x : denL [(.arr 21 (.st .key))]) : run [(107, c_ref02_Good)] L_ref10_Check Ls_ref10_Check B_ref10_Check Tryd.f81 [(.arr 21 (.st .key))] [.i] x = g_ref10_Check x := by kernel_rfl
theorem ok_ref10_Check : ConOK Tryd.prog 81 c_ref10_Check := con_ok (ConsOK.cons ok_ref02_Good (ConsOK.nil)) L_ref10_Check Ls_ref10_Check (B := B_ref10_Check) (BodiesOK.nil) Tryd.func81 rfl fun x y hf h => (run_ref10_Check x).trans (eq_ref10_Check x y hf h)
noncomputable def L_ratchet_free : List (Nat × LD) := [(6, ⟨⟨[(1, .hole .i), (2, .hole .i), (19, .hole (.arr 21 (.st .key))), (20, .hole .i)], [], []⟩, [(.ret, ⟨[(6, .hole .bool)], [], []⟩), (.exit 0, ⟨[], [], []⟩)], 11, []⟩)]
noncomputable def Ls_ratchet_free : List (Nat × List (Nat × LD)) := []
noncomputable def B_ratchet_free : Bodies := []
theorem run_ratchet_free (x : denL [(.arr 21 (.st .key)), .i, .i]) : run [] L_ratchet_free Ls_ratchet_free B_ratchet_free Tryd.f97 [(.arr 21 (.st .key)), .i, .i] [.bool] x = g_ratchet_free x := by kernel_rfl
theorem ok_ratchet_free : ConOK Tryd.prog 97 c_ratchet_free := con_ok (ConsOK.nil) L_ratchet_free Ls_ratchet_free (B := B_ratchet_free) (BodiesOK.nil) Tryd.func97 rfl fun x y hf h => (run_ratchet_free x).trans (eq_ratchet_free x y hf h)
noncomputable def L_ratchet_LeafAt : List (Nat × LD) := []
noncomputable def Ls_ratchet_LeafAt : List (Nat × List (Nat × LD)) := []
noncomputable def B_ratchet_LeafAt : Bodies := []
theorem run_ratchet_LeafAt (x : denL [(.st .entry), .i]) : run [(98, c_key_Ahead)] L_ratchet_LeafAt Ls_ratchet_LeafAt B_ratchet_LeafAt Tryd.f103 [(.st .entry), .i] [(.st .key), .i] x = g_ratchet_LeafAt x := by kernel_rfl
theorem ok_ratchet_LeafAt : ConOK Tryd.prog 103 c_ratchet_LeafAt := con_ok (ConsOK.cons ok_key_Ahead (ConsOK.nil)) L_ratchet_LeafAt Ls_ratchet_LeafAt (B := B_ratchet_LeafAt) (BodiesOK.nil) Tryd.func103 rfl fun x y hf h => (run_ratchet_LeafAt x).trans (eq_ratchet_LeafAt x y hf h)
noncomputable def L_ref10_LeafAt : List (Nat × LD) := []
noncomputable def Ls_ref10_LeafAt : List (Nat × List (Nat × LD)) := []
noncomputable def B_ref10_LeafAt : Bodies := []
theorem run_ref10_LeafAt (x : denL [(.st .entry), .i]) : run [] L_ref10_LeafAt Ls_ref10_LeafAt B_ref10_LeafAt Tryd.f112 [(.st .entry), .i] [(.st .key), .i] x = g_ref10_LeafAt x := by kernel_rfl
theorem ok_ref10_LeafAt : ConOK Tryd.prog 112 c_ref10_LeafAt := con_ok (ConsOK.nil) L_ref10_LeafAt Ls_ref10_LeafAt (B := B_ref10_LeafAt) (BodiesOK.nil) Tryd.func112 rfl fun x y hf h => (run_ref10_LeafAt x).trans (eq_ref10_LeafAt x y hf h)
noncomputable def L_bits_OnesCount32 : List (Nat × LD) := []
noncomputable def Ls_bits_OnesCount32 : List (Nat × List (Nat × LD)) := []
noncomputable def B_bits_OnesCount32 : Bodies := []
theorem run_bits_OnesCount32 (x : denL [(.int .u32)]) : run [] L_bits_OnesCount32 Ls_bits_OnesCount32 B_bits_OnesCount32 Tryd.f70 [(.int .u32)] [.i] x = g_bits_OnesCount32 x := by kernel_rfl
theorem ok_bits_OnesCount32 : ConOK Tryd.prog 70 c_bits_OnesCount32 := con_ok (ConsOK.nil) L_bits_OnesCount32 Ls_bits_OnesCount32 (B := B_bits_OnesCount32) (BodiesOK.nil) Tryd.func70 rfl fun x y hf h => (run_bits_OnesCount32 x).trans (eq_bits_OnesCount32 x y hf h)
noncomputable def L_ratchet_Turn : List (Nat × LD) := [(8, ⟨⟨[(1, .hole (.int .u32)), (2, .hole .i), (3, .ptr 0 []), (6, .ptr 1 []), (31, .hole .i)], [(0, (.arr 21 (.st .key)), .hole (.arr 21 (.st .key))), (1, (.arr 21 (.st .key)), .hole (.arr 21 (.st .key)))], []⟩, [(.ret, ⟨[(6, .ptr 1 []), (7, .hole .i), (8, .hole .i)], [(1, (.arr 21 (.st .key)), .hole (.arr 21 (.st .key)))], []⟩), (.exit 1, ⟨[(2, .hole .i), (3, .ptr 0 []), (6, .ptr 1 [])], [(0, (.arr 21 (.st .key)), .hole (.arr 21 (.st .key))), (1, (.arr 21 (.st .key)), .hole (.arr 21 (.st .key)))], []⟩)], 11, []⟩)]
noncomputable def Ls_ratchet_Turn : List (Nat × List (Nat × LD)) := []
noncomputable def B_ratchet_Turn : Bodies := []
theorem run_ratchet_Turn (x : denL [(.arr 21 (.st .key)), (.int .u32), .i]) : run [(91, c_ratchet_Check), (70, c_bits_OnesCount32), (97, c_ratchet_free), (98, c_key_Ahead)] L_ratchet_Turn Ls_ratchet_Turn B_ratchet_Turn Tryd.f71 [(.arr 21 (.st .key)), (.int .u32), .i] [(.arr 21 (.st .key)), .i, .i] x = g_ratchet_Turn x := by kernel_rfl
theorem ok_ratchet_Turn : ConOK Tryd.prog 71 c_ratchet_Turn := con_ok (ConsOK.cons ok_ratchet_Check (ConsOK.cons ok_bits_OnesCount32 (ConsOK.cons ok_ratchet_free (ConsOK.cons ok_key_Ahead (ConsOK.nil))))) L_ratchet_Turn Ls_ratchet_Turn (B := B_ratchet_Turn) (BodiesOK.nil) Tryd.func71 rfl fun x y hf h => (run_ratchet_Turn x).trans (eq_ratchet_Turn x y hf h)
noncomputable def L_ref01_In : List (Nat × LD) := [(4, ⟨⟨[(0, .hole (.int .u32)), (1, .hole .i), (5, .hole .i)], [], []⟩, [(.exit 0, ⟨[(0, .hole (.int .u32))], [], []⟩)], 10, []⟩)]
noncomputable def Ls_ref01_In : List (Nat × List (Nat × LD)) := []
noncomputable def B_ref01_In : Bodies := []
theorem run_ref01_In (x : denL [(.int .u32), .i]) : run [] L_ref01_In Ls_ref01_In B_ref01_In Tryd.f51 [(.int .u32), .i] [.bool] x = g_ref01_In x := by kernel_rfl
theorem ok_ref01_In : ConOK Tryd.prog 51 c_ref01_In := con_ok (ConsOK.nil) L_ref01_In Ls_ref01_In (B := B_ref01_In) (BodiesOK.nil) Tryd.func51 rfl fun x y hf h => (run_ref01_In x).trans (eq_ref01_In x y hf h)
noncomputable def L_ref10_count : List (Nat × LD) := [(3, ⟨⟨[(0, .hole (.int .u32)), (3, .hole .i), (4, .hole .i)], [], []⟩, [(.exit 0, ⟨[(3, .hole .i)], [], []⟩)], 10, []⟩)]
noncomputable def Ls_ref10_count : List (Nat × List (Nat × LD)) := []
noncomputable def B_ref10_count : Bodies := []
theorem run_ref10_count (x : denL [(.int .u32)]) : run [(51, c_ref01_In)] L_ref10_count Ls_ref10_count B_ref10_count Tryd.f86 [(.int .u32)] [.i] x = g_ref10_count x := by kernel_rfl
theorem ok_ref10_count : ConOK Tryd.prog 86 c_ref10_count := con_ok (ConsOK.cons ok_ref01_In (ConsOK.nil)) L_ref10_count Ls_ref10_count (B := B_ref10_count) (BodiesOK.nil) Tryd.func86 rfl fun x y hf h => (run_ref10_count x).trans (eq_ref10_count x y hf h)
noncomputable def L_ref10_Turn : List (Nat × LD) := [(4, ⟨⟨[(1, .hole (.int .u32)), (2, .hole .i), (3, .ptr 0 []), (6, .ptr 1 []), (9, .hole .i)], [(0, (.arr 21 (.st .key)), .hole (.arr 21 (.st .key))), (1, (.arr 21 (.st .key)), .hole (.arr 21 (.st .key)))], []⟩, [(.ret, ⟨[(6, .ptr 1 []), (7, .hole .i), (8, .hole .i)], [(1, (.arr 21 (.st .key)), .hole (.arr 21 (.st .key)))], []⟩), (.exit 0, ⟨[(1, .hole (.int .u32)), (2, .hole .i), (3, .ptr 0 []), (6, .ptr 1 [])], [(0, (.arr 21 (.st .key)), .hole (.arr 21 (.st .key))), (1, (.arr 21 (.st .key)), .hole (.arr 21 (.st .key)))], []⟩)], 10, []⟩), (12, ⟨⟨[(1, .hole (.int .u32)), (2, .hole .i), (3, .ptr 0 []), (6, .ptr 1 []), (10, .hole .i), (11, .hole .i)], [(0, (.arr 21 (.st .key)), .hole (.arr 21 (.st .key))), (1, (.arr 21 (.st .key)), .hole (.arr 21 (.st .key)))], []⟩, [(.ret, ⟨[(6, .ptr 1 []), (7, .hole .i), (8, .hole .i)], [(1, (.arr 21 (.st .key)), .hole (.arr 21 (.st .key)))], []⟩), (.exit 2, ⟨[(1, .hole (.int .u32)), (2, .hole .i), (3, .ptr 0 []), (6, .ptr 1 [])], [(0, (.arr 21 (.st .key)), .hole (.arr 21 (.st .key))), (1, (.arr 21 (.st .key)), .hole (.arr 21 (.st .key)))], []⟩)], 10, []⟩), (17, ⟨⟨[(1, .hole (.int .u32)), (2, .hole .i), (3, .ptr 0 []), (6, .ptr 1 []), (12, .hole .i)], [(0, (.arr 21 (.st .key)), .hole (.arr 21 (.st .key))), (1, (.arr 21 (.st .key)), .hole (.arr 21 (.st .key)))], []⟩, [(.ret, ⟨[(6, .ptr 1 []), (7, .hole .i), (8, .hole .i)], [(1, (.arr 21 (.st .key)), .hole (.arr 21 (.st .key)))], []⟩), (.exit 4, ⟨[(2, .hole .i), (3, .ptr 0 []), (6, .ptr 1 [])], [(0, (.arr 21 (.st .key)), .hole (.arr 21 (.st .key))), (1, (.arr 21 (.st .key)), .hole (.arr 21 (.st .key)))], []⟩)], 11, []⟩)]
noncomputable def Ls_ref10_Turn : List (Nat × List (Nat × LD)) := []
noncomputable def B_ref10_Turn : Bodies := []
theorem run_ref10_Turn (x : denL [(.arr 21 (.st .key)), (.int .u32), .i]) : run [(81, c_ref10_Check), (51, c_ref01_In), (86, c_ref10_count), (87, c_ref02_Ahead)] L_ref10_Turn Ls_ref10_Turn B_ref10_Turn Tryd.f48 [(.arr 21 (.st .key)), (.int .u32), .i] [(.arr 21 (.st .key)), .i, .i] x = g_ref10_Turn x := by kernel_rfl
theorem ok_ref10_Turn : ConOK Tryd.prog 48 c_ref10_Turn := con_ok (ConsOK.cons ok_ref10_Check (ConsOK.cons ok_ref01_In (ConsOK.cons ok_ref10_count (ConsOK.cons ok_ref02_Ahead (ConsOK.nil))))) L_ref10_Turn Ls_ref10_Turn (B := B_ref10_Turn) (BodiesOK.nil) Tryd.func48 rfl fun x y hf h => (run_ref10_Turn x).trans (eq_ref10_Turn x y hf h)
noncomputable def L_ref01_Node : List (Nat × LD) := []
noncomputable def Ls_ref01_Node : List (Nat × List (Nat × LD)) := []
noncomputable def B_ref01_Node : Bodies := []
theorem run_ref01_Node (x : denL [.i]) : run [] L_ref01_Node Ls_ref01_Node B_ref01_Node Tryd.f111 [.i] [.bool] x = g_ref01_Node x := by kernel_rfl
theorem ok_ref01_Node : ConOK Tryd.prog 111 c_ref01_Node := con_ok (ConsOK.nil) L_ref01_Node Ls_ref01_Node (B := B_ref01_Node) (BodiesOK.nil) Tryd.func111 rfl fun x y hf h => (run_ref01_Node x).trans (eq_ref01_Node x y hf h)
noncomputable def L_ref01_Child : List (Nat × LD) := []
noncomputable def Ls_ref01_Child : List (Nat × List (Nat × LD)) := []
noncomputable def B_ref01_Child : Bodies := []
theorem run_ref01_Child (x : denL [.i, .i]) : run [] L_ref01_Child Ls_ref01_Child B_ref01_Child Tryd.f52 [.i, .i] [.i] x = g_ref01_Child x := by kernel_rfl
theorem ok_ref01_Child : ConOK Tryd.prog 52 c_ref01_Child := con_ok (ConsOK.nil) L_ref01_Child Ls_ref01_Child (B := B_ref01_Child) (BodiesOK.nil) Tryd.func52 rfl fun x y hf h => (run_ref01_Child x).trans (eq_ref01_Child x y hf h)
noncomputable def L_ref01_Parent : List (Nat × LD) := [(7, ⟨⟨[(0, .hole .i), (3, .hole .i), (4, .hole .i)], [], []⟩, [(.ret, ⟨[(2, .hole .i)], [], []⟩), (.exit 2, ⟨[(0, .hole .i), (3, .hole .i)], [], []⟩)], 10, []⟩), (4, ⟨⟨[(0, .hole .i), (3, .hole .i)], [], []⟩, [(.ret, ⟨[(2, .hole .i)], [], []⟩), (.exit 0, ⟨[], [], []⟩)], 20, []⟩)]
noncomputable def Ls_ref01_Parent : List (Nat × List (Nat × LD)) := []
noncomputable def B_ref01_Parent : Bodies := []
theorem run_ref01_Parent (x : denL [.i]) : run [(52, c_ref01_Child)] L_ref01_Parent Ls_ref01_Parent B_ref01_Parent Tryd.f90 [.i] [.i] x = g_ref01_Parent x := by kernel_rfl
theorem ok_ref01_Parent : ConOK Tryd.prog 90 c_ref01_Parent := con_ok (ConsOK.cons ok_ref01_Child (ConsOK.nil)) L_ref01_Parent Ls_ref01_Parent (B := B_ref01_Parent) (BodiesOK.nil) Tryd.func90 rfl fun x y hf h => (run_ref01_Parent x).trans (eq_ref01_Parent x y hf h)
noncomputable def L_ref01_Leaf : List (Nat × LD) := []
noncomputable def Ls_ref01_Leaf : List (Nat × List (Nat × LD)) := []
noncomputable def B_ref01_Leaf : Bodies := []
theorem run_ref01_Leaf (x : denL [.i]) : run [] L_ref01_Leaf Ls_ref01_Leaf B_ref01_Leaf Tryd.f56 [.i] [.i] x = g_ref01_Leaf x := by kernel_rfl
theorem ok_ref01_Leaf : ConOK Tryd.prog 56 c_ref01_Leaf := con_ok (ConsOK.nil) L_ref01_Leaf Ls_ref01_Leaf (B := B_ref01_Leaf) (BodiesOK.nil) Tryd.func56 rfl fun x y hf h => (run_ref01_Leaf x).trans (eq_ref01_Leaf x y hf h)
noncomputable def L_ref01_Path : List (Nat × LD) := [(6, ⟨⟨[(2, .ptr 0 []), (4, .ptr 1 []), (5, .hole .i), (6, .hole .i)], [(0, (.arr 3 .i), .hole (.arr 3 .i)), (1, (.arr 3 .i), .hole (.arr 3 .i))], []⟩, [(.exit 0, ⟨[(2, .ptr 0 []), (4, .ptr 1 [])], [(0, (.arr 3 .i), .hole (.arr 3 .i)), (1, (.arr 3 .i), .hole (.arr 3 .i))], []⟩)], 10, []⟩)]
noncomputable def Ls_ref01_Path : List (Nat × List (Nat × LD)) := []
noncomputable def B_ref01_Path : Bodies := []
theorem run_ref01_Path (x : denL [.i]) : run [(56, c_ref01_Leaf), (90, c_ref01_Parent)] L_ref01_Path Ls_ref01_Path B_ref01_Path Tryd.f55 [.i] [(.arr 3 .i), .bool] x = g_ref01_Path x := by kernel_rfl
theorem ok_ref01_Path : ConOK Tryd.prog 55 c_ref01_Path := con_ok (ConsOK.cons ok_ref01_Leaf (ConsOK.cons ok_ref01_Parent (ConsOK.nil))) L_ref01_Path Ls_ref01_Path (B := B_ref01_Path) (BodiesOK.nil) Tryd.func55 rfl fun x y hf h => (run_ref01_Path x).trans (eq_ref01_Path x y hf h)
noncomputable def L_ref01_Below : List (Nat × LD) := [(3, ⟨⟨[(0, .hole .i), (1, .hole .i)], [], []⟩, [(.exit 0, ⟨[(0, .hole .i), (1, .hole .i)], [], []⟩)], 10, []⟩)]
noncomputable def Ls_ref01_Below : List (Nat × List (Nat × LD)) := []
noncomputable def B_ref01_Below : Bodies := []
theorem run_ref01_Below (x : denL [.i, .i]) : run [(111, c_ref01_Node), (90, c_ref01_Parent)] L_ref01_Below Ls_ref01_Below B_ref01_Below Tryd.f88 [.i, .i] [.bool] x = g_ref01_Below x := by kernel_rfl
theorem ok_ref01_Below : ConOK Tryd.prog 88 c_ref01_Below := con_ok (ConsOK.cons ok_ref01_Node (ConsOK.cons ok_ref01_Parent (ConsOK.nil))) L_ref01_Below Ls_ref01_Below (B := B_ref01_Below) (BodiesOK.nil) Tryd.func88 rfl fun x y hf h => (run_ref01_Below x).trans (eq_ref01_Below x y hf h)
noncomputable def L_shape_first : List (Nat × LD) := []
noncomputable def Ls_shape_first : List (Nat × List (Nat × LD)) := []
noncomputable def B_shape_first : Bodies := []
theorem run_shape_first (x : denL [.i]) : run [] L_shape_first Ls_shape_first B_shape_first Tryd.f106 [.i] [.i] x = g_shape_first x := by kernel_rfl
theorem ok_shape_first : ConOK Tryd.prog 106 c_shape_first := con_ok (ConsOK.nil) L_shape_first Ls_shape_first (B := B_shape_first) (BodiesOK.nil) Tryd.func106 rfl fun x y hf h => (run_shape_first x).trans (eq_shape_first x y hf h)
noncomputable def L_shape_Level : List (Nat × LD) := [(5, ⟨⟨[(0, .hole .i), (3, .hole .i)], [], []⟩, [(.ret, ⟨[(2, .hole .i)], [], []⟩)], 10, []⟩)]
noncomputable def Ls_shape_Level : List (Nat × List (Nat × LD)) := []
noncomputable def B_shape_Level : Bodies := []
theorem run_shape_Level (x : denL [.i]) : run [(106, c_shape_first)] L_shape_Level Ls_shape_Level B_shape_Level Tryd.f104 [.i] [.i] x = g_shape_Level x := by kernel_rfl
theorem ok_shape_Level : ConOK Tryd.prog 104 c_shape_Level := con_ok (ConsOK.cons ok_shape_first (ConsOK.nil)) L_shape_Level Ls_shape_Level (B := B_shape_Level) (BodiesOK.nil) Tryd.func104 rfl fun x y hf h => (run_shape_Level x).trans (eq_shape_Level x y hf h)
noncomputable def L_shape_span : List (Nat × LD) := []
noncomputable def Ls_shape_span : List (Nat × List (Nat × LD)) := []
noncomputable def B_shape_span : Bodies := []
theorem run_shape_span (x : denL [.i]) : run [(104, c_shape_Level), (106, c_shape_first)] L_shape_span Ls_shape_span B_shape_span Tryd.f105 [.i] [.i, .i] x = g_shape_span x := by kernel_rfl
theorem ok_shape_span : ConOK Tryd.prog 105 c_shape_span := con_ok (ConsOK.cons ok_shape_Level (ConsOK.cons ok_shape_first (ConsOK.nil))) L_shape_span Ls_shape_span (B := B_shape_span) (BodiesOK.nil) Tryd.func105 rfl fun x y hf h => (run_shape_span x).trans (eq_shape_span x y hf h)
noncomputable def L_shape_Mask : List (Nat × LD) := []
noncomputable def Ls_shape_Mask : List (Nat × List (Nat × LD)) := []
noncomputable def B_shape_Mask : Bodies := []
theorem run_shape_Mask (x : denL [.i]) : run [(104, c_shape_Level), (105, c_shape_span)] L_shape_Mask Ls_shape_Mask B_shape_Mask Tryd.f78 [.i] [(.int .u64)] x = g_shape_Mask x := by kernel_rfl
theorem ok_shape_Mask : ConOK Tryd.prog 78 c_shape_Mask := con_ok (ConsOK.cons ok_shape_Level (ConsOK.cons ok_shape_span (ConsOK.nil))) L_shape_Mask Ls_shape_Mask (B := B_shape_Mask) (BodiesOK.nil) Tryd.func78 rfl fun x y hf h => (run_shape_Mask x).trans (eq_shape_Mask x y hf h)
noncomputable def L_shape_Slot : List (Nat × LD) := []
noncomputable def Ls_shape_Slot : List (Nat × List (Nat × LD)) := []
noncomputable def B_shape_Slot : Bodies := []
theorem run_shape_Slot (x : denL [.i]) : run [] L_shape_Slot Ls_shape_Slot B_shape_Slot Tryd.f102 [.i] [.i] x = g_shape_Slot x := by kernel_rfl
theorem ok_shape_Slot : ConOK Tryd.prog 102 c_shape_Slot := con_ok (ConsOK.nil) L_shape_Slot Ls_shape_Slot (B := B_shape_Slot) (BodiesOK.nil) Tryd.func102 rfl fun x y hf h => (run_shape_Slot x).trans (eq_shape_Slot x y hf h)
noncomputable def L_shape_Child : List (Nat × LD) := []
noncomputable def Ls_shape_Child : List (Nat × List (Nat × LD)) := []
noncomputable def B_shape_Child : Bodies := []
theorem run_shape_Child (x : denL [.i, .i]) : run [] L_shape_Child Ls_shape_Child B_shape_Child Tryd.f77 [.i, .i] [.i] x = g_shape_Child x := by kernel_rfl
theorem ok_shape_Child : ConOK Tryd.prog 77 c_shape_Child := con_ok (ConsOK.nil) L_shape_Child Ls_shape_Child (B := B_shape_Child) (BodiesOK.nil) Tryd.func77 rfl fun x y hf h => (run_shape_Child x).trans (eq_shape_Child x y hf h)
noncomputable def L_shape_Leaf : List (Nat × LD) := []
noncomputable def Ls_shape_Leaf : List (Nat × List (Nat × LD)) := []
noncomputable def B_shape_Leaf : Bodies := []
theorem run_shape_Leaf (x : denL [.i]) : run [] L_shape_Leaf Ls_shape_Leaf B_shape_Leaf Tryd.f80 [.i] [.i] x = g_shape_Leaf x := by kernel_rfl
theorem ok_shape_Leaf : ConOK Tryd.prog 80 c_shape_Leaf := con_ok (ConsOK.nil) L_shape_Leaf Ls_shape_Leaf (B := B_shape_Leaf) (BodiesOK.nil) Tryd.func80 rfl fun x y hf h => (run_shape_Leaf x).trans (eq_shape_Leaf x y hf h)
noncomputable def L_shape_Path : List (Nat × LD) := [(5, ⟨⟨[(0, .hole .i), (2, .ptr 0 []), (4, .ptr 1 []), (11, .hole .i)], [(0, (.arr 3 .i), .hole (.arr 3 .i)), (1, (.arr 3 .i), .hole (.arr 3 .i))], []⟩, [(.exit 0, ⟨[(2, .ptr 0 []), (4, .ptr 1 [])], [(0, (.arr 3 .i), .hole (.arr 3 .i)), (1, (.arr 3 .i), .hole (.arr 3 .i))], []⟩)], 10, []⟩)]
noncomputable def Ls_shape_Path : List (Nat × List (Nat × LD)) := []
noncomputable def B_shape_Path : Bodies := []
theorem run_shape_Path (x : denL [.i]) : run [(80, c_shape_Leaf), (106, c_shape_first)] L_shape_Path Ls_shape_Path B_shape_Path Tryd.f79 [.i] [(.arr 3 .i), .bool] x = g_shape_Path x := by kernel_rfl
theorem ok_shape_Path : ConOK Tryd.prog 79 c_shape_Path := con_ok (ConsOK.cons ok_shape_Leaf (ConsOK.cons ok_shape_first (ConsOK.nil))) L_shape_Path Ls_shape_Path (B := B_shape_Path) (BodiesOK.nil) Tryd.func79 rfl fun x y hf h => (run_shape_Path x).trans (eq_shape_Path x y hf h)
noncomputable def L_shape_Above : List (Nat × LD) := [(3, ⟨⟨[(0, .hole (.int .u64)), (3, .hole (.int .u32)), (5, .hole .i)], [], []⟩, [(.exit 0, ⟨[(3, .hole (.int .u32))], [], []⟩)], 10, []⟩)]
noncomputable def Ls_shape_Above : List (Nat × List (Nat × LD)) := []
noncomputable def B_shape_Above : Bodies := []
theorem run_shape_Above (x : denL [(.int .u64)]) : run [(78, c_shape_Mask)] L_shape_Above Ls_shape_Above B_shape_Above Tryd.f96 [(.int .u64)] [(.int .u32)] x = g_shape_Above x := by kernel_rfl
theorem ok_shape_Above : ConOK Tryd.prog 96 c_shape_Above := con_ok (ConsOK.cons ok_shape_Mask (ConsOK.nil)) L_shape_Above Ls_shape_Above (B := B_shape_Above) (BodiesOK.nil) Tryd.func96 rfl fun x y hf h => (run_shape_Above x).trans (eq_shape_Above x y hf h)
noncomputable def L_roster_right : List (Nat × LD) := []
noncomputable def Ls_roster_right : List (Nat × List (Nat × LD)) := []
noncomputable def B_roster_right : Bodies := []
theorem run_roster_right (x : denL [(.st .entry)]) : run [] L_roster_right Ls_roster_right B_roster_right Tryd.f113 [(.st .entry)] [.bool] x = g_roster_right x := by kernel_rfl
theorem ok_roster_right : ConOK Tryd.prog 113 c_roster_right := con_ok (ConsOK.nil) L_roster_right Ls_roster_right (B := B_roster_right) (BodiesOK.nil) Tryd.func113 rfl fun x y hf h => (run_roster_right x).trans (eq_roster_right x y hf h)
noncomputable def L_roster_Check : List (Nat × LD) := [(3, ⟨⟨[(3, .mp 1), (4, .mp 2), (9, .hole (.arr 64 (.st .entry))), (10, .hole .i)], [], [(1, .i, .i), (2, .i, .i)]⟩, [(.ret, ⟨[(2, .hole .i)], [], []⟩), (.exit 0, ⟨[], [], []⟩)], 11, []⟩)]
noncomputable def Ls_roster_Check : List (Nat × List (Nat × LD)) := []
noncomputable def B_roster_Check : Bodies := []
theorem run_roster_Check (x : denL [(.arr 64 (.st .entry))]) : run [(113, c_roster_right)] L_roster_Check Ls_roster_Check B_roster_Check Tryd.f92 [(.arr 64 (.st .entry))] [.i] x = g_roster_Check x := by kernel_rfl
theorem ok_roster_Check : ConOK Tryd.prog 92 c_roster_Check := con_ok (ConsOK.cons ok_roster_right (ConsOK.nil)) L_roster_Check Ls_roster_Check (B := B_roster_Check) (BodiesOK.nil) Tryd.func92 rfl fun x y hf h => (run_roster_Check x).trans (eq_roster_Check x y hf h)
noncomputable def L_roster_Find : List (Nat × LD) := []
noncomputable def Ls_roster_Find : List (Nat × List (Nat × LD)) := [(114, [(2, ⟨⟨[(0, .asl 0 []), (1, .fn 115 [1]), (7, .hole .i), (8, .hole .i)], [(0, (.arr 64 (.st .entry)), .hole (.arr 64 (.st .entry))), (1, .i, .hole .i)], []⟩, [(.ret, ⟨[(4, .hole .i)], [(0, (.arr 64 (.st .entry)), .hole (.arr 64 (.st .entry))), (1, .i, .hole .i)], []⟩), (.exit 0, ⟨[], [(0, (.arr 64 (.st .entry)), .hole (.arr 64 (.st .entry))), (1, .i, .hole .i)], []⟩)], 10, []⟩)])]
noncomputable def B_roster_Find : Bodies := [bodyLine 115 Tryd.f115, bodyLine 114 Tryd.f114]
theorem run_roster_Find (x : denL [(.arr 64 (.st .entry)), .i]) : run [] L_roster_Find Ls_roster_Find B_roster_Find Tryd.f94 [(.arr 64 (.st .entry)), .i] [.i] x = g_roster_Find x := by kernel_rfl
theorem ok_roster_Find : ConOK Tryd.prog 94 c_roster_Find := con_ok (ConsOK.nil) L_roster_Find Ls_roster_Find (B := B_roster_Find) (BodiesOK.cons Tryd.func115 rfl (BodiesOK.cons Tryd.func114 rfl (BodiesOK.nil))) Tryd.func94 rfl fun x y hf h => (run_roster_Find x).trans (eq_roster_Find x y hf h)
noncomputable def L_roster_Taken : List (Nat × LD) := [(3, ⟨⟨[(3, .hole (.int .u64)), (6, .hole (.arr 64 (.st .entry))), (7, .hole .i)], [], []⟩, [(.exit 0, ⟨[(3, .hole (.int .u64))], [], []⟩)], 11, []⟩)]
noncomputable def Ls_roster_Taken : List (Nat × List (Nat × LD)) := []
noncomputable def B_roster_Taken : Bodies := []
theorem run_roster_Taken (x : denL [(.arr 64 (.st .entry))]) : run [] L_roster_Taken Ls_roster_Taken B_roster_Taken Tryd.f76 [(.arr 64 (.st .entry))] [(.int .u64)] x = g_roster_Taken x := by kernel_rfl
theorem ok_roster_Taken : ConOK Tryd.prog 76 c_roster_Taken := con_ok (ConsOK.nil) L_roster_Taken Ls_roster_Taken (B := B_roster_Taken) (BodiesOK.nil) Tryd.func76 rfl fun x y hf h => (run_roster_Taken x).trans (eq_roster_Taken x y hf h)
noncomputable def L_ref09_Right : List (Nat × LD) := []
noncomputable def Ls_ref09_Right : List (Nat × List (Nat × LD)) := []
noncomputable def B_ref09_Right : Bodies := []
theorem run_ref09_Right (x : denL [(.st .entry)]) : run [] L_ref09_Right Ls_ref09_Right B_ref09_Right Tryd.f108 [(.st .entry)] [.bool] x = g_ref09_Right x := by kernel_rfl
theorem ok_ref09_Right : ConOK Tryd.prog 108 c_ref09_Right := con_ok (ConsOK.nil) L_ref09_Right Ls_ref09_Right (B := B_ref09_Right) (BodiesOK.nil) Tryd.func108 rfl fun x y hf h => (run_ref09_Right x).trans (eq_ref09_Right x y hf h)
noncomputable def L_ref09_Check : List (Nat × LD) := [(8, ⟨⟨[(1, .ptr 0 []), (3, .hole .i), (4, .hole .i)], [(0, (.arr 64 (.st .entry)), .hole (.arr 64 (.st .entry)))], []⟩, [(.ret, ⟨[(2, .hole .i)], [], []⟩), (.exit 2, ⟨[(1, .ptr 0 []), (3, .hole .i)], [(0, (.arr 64 (.st .entry)), .hole (.arr 64 (.st .entry)))], []⟩)], 10, []⟩), (2, ⟨⟨[(1, .ptr 0 []), (3, .hole .i)], [(0, (.arr 64 (.st .entry)), .hole (.arr 64 (.st .entry)))], []⟩, [(.ret, ⟨[(2, .hole .i)], [], []⟩), (.exit 0, ⟨[], [], []⟩)], 20, []⟩)]
noncomputable def Ls_ref09_Check : List (Nat × List (Nat × LD)) := []
noncomputable def B_ref09_Check : Bodies := []
theorem run_ref09_Check (x : denL [(.arr 64 (.st .entry))]) : run [(108, c_ref09_Right)] L_ref09_Check Ls_ref09_Check B_ref09_Check Tryd.f82 [(.arr 64 (.st .entry))] [.i] x = g_ref09_Check x := by kernel_rfl
theorem ok_ref09_Check : ConOK Tryd.prog 82 c_ref09_Check := con_ok (ConsOK.cons ok_ref09_Right (ConsOK.nil)) L_ref09_Check Ls_ref09_Check (B := B_ref09_Check) (BodiesOK.nil) Tryd.func82 rfl fun x y hf h => (run_ref09_Check x).trans (eq_ref09_Check x y hf h)
noncomputable def L_ref09_Find : List (Nat × LD) := [(2, ⟨⟨[(1, .hole .i), (2, .ptr 0 []), (5, .hole .i)], [(0, (.arr 64 (.st .entry)), .hole (.arr 64 (.st .entry)))], []⟩, [(.ret, ⟨[(4, .hole .i)], [], []⟩), (.exit 0, ⟨[], [], []⟩)], 10, []⟩)]
noncomputable def Ls_ref09_Find : List (Nat × List (Nat × LD)) := []
noncomputable def B_ref09_Find : Bodies := []
theorem run_ref09_Find (x : denL [(.arr 64 (.st .entry)), .i]) : run [] L_ref09_Find Ls_ref09_Find B_ref09_Find Tryd.f47 [(.arr 64 (.st .entry)), .i] [.i] x = g_ref09_Find x := by kernel_rfl
theorem ok_ref09_Find : ConOK Tryd.prog 47 c_ref09_Find := con_ok (ConsOK.nil) L_ref09_Find Ls_ref09_Find (B := B_ref09_Find) (BodiesOK.nil) Tryd.func47 rfl fun x y hf h => (run_ref09_Find x).trans (eq_ref09_Find x y hf h)
noncomputable def L_ref11_Start : List (Nat × LD) := [(3, ⟨⟨[(0, .ptr 0 []), (1, .ptr 1 []), (2, .hole .i)], [(0, (.st .tree), .hole (.st .tree)), (1, (.st .tree), .hole (.st .tree))], []⟩, [(.exit 0, ⟨[(0, .ptr 0 []), (1, .ptr 1 [])], [(0, (.st .tree), .hole (.st .tree)), (1, (.st .tree), .hole (.st .tree))], []⟩)], 10, []⟩)]
noncomputable def Ls_ref11_Start : List (Nat × List (Nat × LD)) := []
noncomputable def B_ref11_Start : Bodies := []
theorem run_ref11_Start (x : denL []) : run [] L_ref11_Start Ls_ref11_Start B_ref11_Start Tryd.f21 [] [(.st .tree)] x = g_ref11_Start x := by kernel_rfl
theorem ok_ref11_Start : ConOK Tryd.prog 21 c_ref11_Start := con_ok (ConsOK.nil) L_ref11_Start Ls_ref11_Start (B := B_ref11_Start) (BodiesOK.nil) Tryd.func21 rfl fun x y hf h => (run_ref11_Start x).trans (eq_ref11_Start x y hf h)
noncomputable def L_ref11_Check : List (Nat × LD) := [(4, ⟨⟨[(1, .ptr 0 []), (3, .hole .i)], [(0, (.st .tree), .hole (.st .tree))], []⟩, [(.ret, ⟨[(2, .hole .i)], [], []⟩), (.exit 0, ⟨[(1, .ptr 0 [])], [(0, (.st .tree), .hole (.st .tree))], []⟩)], 10, []⟩), (14, ⟨⟨[(1, .ptr 0 []), (4, .hole .i), (5, .hole .i)], [(0, (.st .tree), .hole (.st .tree))], []⟩, [(.ret, ⟨[(2, .hole .i)], [], []⟩), (.exit 4, ⟨[(1, .ptr 0 []), (4, .hole .i)], [(0, (.st .tree), .hole (.st .tree))], []⟩)], 10, []⟩), (9, ⟨⟨[(1, .ptr 0 []), (4, .hole .i)], [(0, (.st .tree), .hole (.st .tree))], []⟩, [(.ret, ⟨[(2, .hole .i)], [], []⟩), (.exit 2, ⟨[], [], []⟩)], 20, []⟩)]
noncomputable def Ls_ref11_Check : List (Nat × List (Nat × LD)) := []
noncomputable def B_ref11_Check : Bodies := []
theorem run_ref11_Check (x : denL [(.st .tree)]) : run [(81, c_ref10_Check), (82, c_ref09_Check)] L_ref11_Check Ls_ref11_Check B_ref11_Check Tryd.f45 [(.st .tree)] [.i] x = g_ref11_Check x := by kernel_rfl
theorem ok_ref11_Check : ConOK Tryd.prog 45 c_ref11_Check := con_ok (ConsOK.cons ok_ref10_Check (ConsOK.cons ok_ref09_Check (ConsOK.nil))) L_ref11_Check Ls_ref11_Check (B := B_ref11_Check) (BodiesOK.nil) Tryd.func45 rfl fun x y hf h => (run_ref11_Check x).trans (eq_ref11_Check x y hf h)
noncomputable def L_ref11_Of : List (Nat × LD) := []
noncomputable def Ls_ref11_Of : List (Nat × List (Nat × LD)) := []
noncomputable def B_ref11_Of : Bodies := []
theorem run_ref11_Of (x : denL [(.st .tree), .i]) : run [(111, c_ref01_Node), (112, c_ref10_LeafAt)] L_ref11_Of Ls_ref11_Of B_ref11_Of Tryd.f89 [(.st .tree), .i] [(.st .key), .i] x = g_ref11_Of x := by kernel_rfl
theorem ok_ref11_Of : ConOK Tryd.prog 89 c_ref11_Of := con_ok (ConsOK.cons ok_ref01_Node (ConsOK.cons ok_ref10_LeafAt (ConsOK.nil))) L_ref11_Of Ls_ref11_Of (B := B_ref11_Of) (BodiesOK.nil) Tryd.func89 rfl fun x y hf h => (run_ref11_Of x).trans (eq_ref11_Of x y hf h)
noncomputable def L_ref11_Below : List (Nat × LD) := [(2, ⟨⟨[(1, .hole .i), (2, .ptr 0 []), (5, .hole .i)], [(0, (.arr 64 (.st .entry)), .hole (.arr 64 (.st .entry)))], []⟩, [(.ret, ⟨[(4, .hole .bool)], [], []⟩), (.exit 0, ⟨[], [], []⟩)], 10, []⟩)]
noncomputable def Ls_ref11_Below : List (Nat × List (Nat × LD)) := []
noncomputable def B_ref11_Below : Bodies := []
theorem run_ref11_Below (x : denL [(.arr 64 (.st .entry)), .i]) : run [(56, c_ref01_Leaf), (88, c_ref01_Below)] L_ref11_Below Ls_ref11_Below B_ref11_Below Tryd.f53 [(.arr 64 (.st .entry)), .i] [.bool] x = g_ref11_Below x := by kernel_rfl
theorem ok_ref11_Below : ConOK Tryd.prog 53 c_ref11_Below := con_ok (ConsOK.cons ok_ref01_Leaf (ConsOK.cons ok_ref01_Below (ConsOK.nil))) L_ref11_Below Ls_ref11_Below (B := B_ref11_Below) (BodiesOK.nil) Tryd.func53 rfl fun x y hf h => (run_ref11_Below x).trans (eq_ref11_Below x y hf h)
noncomputable def L_keytree_Check : List (Nat × LD) := [(7, ⟨⟨[(1, .ptr 0 []), (3, .mp 1), (38, .hole (.arr 21 (.st .key))), (39, .hole .i)], [(0, (.st .tree), .hole (.st .tree))], [(1, .i, .i)]⟩, [(.ret, ⟨[(2, .hole .i)], [], []⟩), (.exit 0, ⟨[(1, .ptr 0 []), (3, .mp 1)], [(0, (.st .tree), .hole (.st .tree))], [(1, .i, .i)]⟩)], 11, []⟩), (14, ⟨⟨[(1, .ptr 0 []), (3, .mp 1), (61, .hole (.arr 64 (.st .entry))), (62, .hole .i)], [(0, (.st .tree), .hole (.st .tree))], [(1, .i, .i)]⟩, [(.ret, ⟨[(2, .hole .i)], [], []⟩), (.exit 2, ⟨[], [], []⟩)], 11, []⟩)]
noncomputable def Ls_keytree_Check : List (Nat × List (Nat × LD)) := []
noncomputable def B_keytree_Check : Bodies := []
theorem run_keytree_Check (x : denL [(.st .tree)]) : run [(91, c_ratchet_Check), (92, c_roster_Check)] L_keytree_Check Ls_keytree_Check B_keytree_Check Tryd.f66 [(.st .tree)] [.i] x = g_keytree_Check x := by kernel_rfl
theorem ok_keytree_Check : ConOK Tryd.prog 66 c_keytree_Check := con_ok (ConsOK.cons ok_ratchet_Check (ConsOK.cons ok_roster_Check (ConsOK.nil))) L_keytree_Check Ls_keytree_Check (B := B_keytree_Check) (BodiesOK.nil) Tryd.func66 rfl fun x y hf h => (run_keytree_Check x).trans (eq_keytree_Check x y hf h)
noncomputable def L_ref08_Places : List (Nat × LD) := [(3, ⟨⟨[(0, .hole (.int .u64)), (2, .ptr 0 []), (3, .ptr 1 []), (4, .hole .i)], [(0, (.arr 64 .bool), .hole (.arr 64 .bool)), (1, (.arr 64 .bool), .hole (.arr 64 .bool))], []⟩, [(.exit 0, ⟨[(2, .ptr 0 []), (3, .ptr 1 [])], [(0, (.arr 64 .bool), .hole (.arr 64 .bool)), (1, (.arr 64 .bool), .hole (.arr 64 .bool))], []⟩)], 10, []⟩)]
noncomputable def Ls_ref08_Places : List (Nat × List (Nat × LD)) := []
noncomputable def B_ref08_Places : Bodies := []
theorem run_ref08_Places (x : denL [(.int .u64)]) : run [] L_ref08_Places Ls_ref08_Places B_ref08_Places Tryd.f121 [(.int .u64)] [(.arr 64 .bool)] x = g_ref08_Places x := by kernel_rfl
theorem ok_ref08_Places : ConOK Tryd.prog 121 c_ref08_Places := con_ok (ConsOK.nil) L_ref08_Places Ls_ref08_Places (B := B_ref08_Places) (BodiesOK.nil) Tryd.func121 rfl fun x y hf h => (run_ref08_Places x).trans (eq_ref08_Places x y hf h)
noncomputable def L_ref08_Word : List (Nat × LD) := [(3, ⟨⟨[(1, .ptr 0 []), (3, .hole (.int .u64)), (4, .hole .i)], [(0, (.arr 64 .bool), .hole (.arr 64 .bool))], []⟩, [(.exit 0, ⟨[(3, .hole (.int .u64))], [], []⟩)], 10, []⟩)]
noncomputable def Ls_ref08_Word : List (Nat × List (Nat × LD)) := []
noncomputable def B_ref08_Word : Bodies := []
theorem run_ref08_Word (x : denL [(.arr 64 .bool)]) : run [] L_ref08_Word Ls_ref08_Word B_ref08_Word Tryd.f110 [(.arr 64 .bool)] [(.int .u64)] x = g_ref08_Word x := by kernel_rfl
theorem ok_ref08_Word : ConOK Tryd.prog 110 c_ref08_Word := con_ok (ConsOK.nil) L_ref08_Word Ls_ref08_Word (B := B_ref08_Word) (BodiesOK.nil) Tryd.func110 rfl fun x y hf h => (run_ref08_Word x).trans (eq_ref08_Word x y hf h)
noncomputable def L_ref08_List : List (Nat × LD) := [(4, ⟨⟨[(3, .ptr 0 []), (4, .row .i), (5, .hole .i)], [(0, (.arr 64 .bool), .hole (.arr 64 .bool))], []⟩, [(.exit 0, ⟨[(4, .row .i)], [], []⟩)], 13, []⟩)]
noncomputable def Ls_ref08_List : List (Nat × List (Nat × LD)) := []
noncomputable def B_ref08_List : Bodies := []
theorem run_ref08_List (x : denL [(.int .u64)]) : run [(121, c_ref08_Places)] L_ref08_List Ls_ref08_List B_ref08_List Tryd.f109 [(.int .u64)] [(.list .i)] x = g_ref08_List x := by kernel_rfl
theorem ok_ref08_List : ConOK Tryd.prog 109 c_ref08_List := con_ok (ConsOK.cons ok_ref08_Places (ConsOK.nil)) L_ref08_List Ls_ref08_List (B := B_ref08_List) (BodiesOK.nil) Tryd.func109 rfl fun x y hf h => (run_ref08_List x).trans (eq_ref08_List x y hf h)
noncomputable def L_ref08_Count : List (Nat × LD) := []
noncomputable def Ls_ref08_Count : List (Nat × List (Nat × LD)) := []
noncomputable def B_ref08_Count : Bodies := []
theorem run_ref08_Count (x : denL [(.int .u64)]) : run [(109, c_ref08_List)] L_ref08_Count Ls_ref08_Count B_ref08_Count Tryd.f84 [(.int .u64)] [.i] x = g_ref08_Count x := by kernel_rfl
theorem ok_ref08_Count : ConOK Tryd.prog 84 c_ref08_Count := con_ok (ConsOK.cons ok_ref08_List (ConsOK.nil)) L_ref08_Count Ls_ref08_Count (B := B_ref08_Count) (BodiesOK.nil) Tryd.func84 rfl fun x y hf h => (run_ref08_Count x).trans (eq_ref08_Count x y hf h)
noncomputable def L_ref09_Taken : List (Nat × LD) := [(3, ⟨⟨[(1, .ptr 0 []), (3, .ptr 1 []), (4, .hole .i)], [(0, (.arr 64 (.st .entry)), .hole (.arr 64 (.st .entry))), (1, (.arr 64 .bool), .hole (.arr 64 .bool))], []⟩, [(.exit 0, ⟨[(3, .ptr 1 [])], [(1, (.arr 64 .bool), .hole (.arr 64 .bool))], []⟩)], 10, []⟩)]
noncomputable def Ls_ref09_Taken : List (Nat × List (Nat × LD)) := []
noncomputable def B_ref09_Taken : Bodies := []
theorem run_ref09_Taken (x : denL [(.arr 64 (.st .entry))]) : run [(110, c_ref08_Word)] L_ref09_Taken Ls_ref09_Taken B_ref09_Taken Tryd.f85 [(.arr 64 (.st .entry))] [(.int .u64)] x = g_ref09_Taken x := by kernel_rfl
theorem ok_ref09_Taken : ConOK Tryd.prog 85 c_ref09_Taken := con_ok (ConsOK.cons ok_ref08_Word (ConsOK.nil)) L_ref09_Taken Ls_ref09_Taken (B := B_ref09_Taken) (BodiesOK.nil) Tryd.func85 rfl fun x y hf h => (run_ref09_Taken x).trans (eq_ref09_Taken x y hf h)
noncomputable def L_ref09_person : List (Nat × LD) := []
noncomputable def Ls_ref09_person : List (Nat × List (Nat × LD)) := []
noncomputable def B_ref09_person : Bodies := []
theorem run_ref09_person (x : denL [(.arr 64 (.st .entry)), (.arr 256 .bool), .i, .bool]) : run [(47, c_ref09_Find)] L_ref09_person Ls_ref09_person B_ref09_person Tryd.f83 [(.arr 64 (.st .entry)), (.arr 256 .bool), .i, .bool] [.i] x = g_ref09_person x := by kernel_rfl
theorem ok_ref09_person : ConOK Tryd.prog 83 c_ref09_person := con_ok (ConsOK.cons ok_ref09_Find (ConsOK.nil)) L_ref09_person Ls_ref09_person (B := B_ref09_person) (BodiesOK.nil) Tryd.func83 rfl fun x y hf h => (run_ref09_person x).trans (eq_ref09_person x y hf h)
noncomputable def L_ref09_Fits : List (Nat × LD) := [(5, ⟨⟨[(2, .ptr 0 []), (3, .ptr 1 []), (5, .ptr 2 []), (16, .hole (.list .i)), (17, .hole .i), (18, .hole .i)], [(0, (.arr 64 (.st .entry)), .hole (.arr 64 (.st .entry))), (1, (.st .batch), .hole (.st .batch)), (2, (.arr 256 .bool), .hole (.arr 256 .bool))], []⟩, [(.ret, ⟨[(4, .hole .i)], [], []⟩), (.exit 0, ⟨[(2, .ptr 0 []), (3, .ptr 1 []), (5, .ptr 2 [])], [(0, (.arr 64 (.st .entry)), .hole (.arr 64 (.st .entry))), (1, (.st .batch), .hole (.st .batch)), (2, (.arr 256 .bool), .hole (.arr 256 .bool))], []⟩)], 10, []⟩), (13, ⟨⟨[(2, .ptr 0 []), (3, .ptr 1 []), (5, .ptr 2 []), (33, .hole (.list .i)), (34, .hole .i), (35, .hole .i)], [(0, (.arr 64 (.st .entry)), .hole (.arr 64 (.st .entry))), (1, (.st .batch), .hole (.st .batch)), (2, (.arr 256 .bool), .hole (.arr 256 .bool))], []⟩, [(.ret, ⟨[(4, .hole .i)], [], []⟩), (.exit 2, ⟨[(2, .ptr 0 []), (3, .ptr 1 [])], [(0, (.arr 64 (.st .entry)), .hole (.arr 64 (.st .entry))), (1, (.st .batch), .hole (.st .batch))], []⟩)], 10, []⟩)]
noncomputable def Ls_ref09_Fits : List (Nat × List (Nat × LD)) := []
noncomputable def B_ref09_Fits : Bodies := []
theorem run_ref09_Fits (x : denL [(.arr 64 (.st .entry)), (.st .batch)]) : run [(82, c_ref09_Check), (83, c_ref09_person), (85, c_ref09_Taken), (84, c_ref08_Count)] L_ref09_Fits Ls_ref09_Fits B_ref09_Fits Tryd.f46 [(.arr 64 (.st .entry)), (.st .batch)] [.i] x = g_ref09_Fits x := by kernel_rfl
theorem ok_ref09_Fits : ConOK Tryd.prog 46 c_ref09_Fits := con_ok (ConsOK.cons ok_ref09_Check (ConsOK.cons ok_ref09_person (ConsOK.cons ok_ref09_Taken (ConsOK.cons ok_ref08_Count (ConsOK.nil))))) L_ref09_Fits Ls_ref09_Fits (B := B_ref09_Fits) (BodiesOK.nil) Tryd.func46 rfl fun x y hf h => (run_ref09_Fits x).trans (eq_ref09_Fits x y hf h)
noncomputable def L_ref09_Move : List (Nat × LD) := [(10, ⟨⟨[(2, .hole .i), (3, .hole .i), (4, .ptr 0 []), (5, .ptr 1 []), (8, .ptr 2 []), (13, .hole .i), (14, .hole .i)], [(0, (.arr 64 (.st .entry)), .hole (.arr 64 (.st .entry))), (1, (.st .batch), .hole (.st .batch)), (2, (.arr 64 (.st .entry)), .hole (.arr 64 (.st .entry)))], []⟩, [(.ret, ⟨[(8, .ptr 2 []), (9, .nils), (10, .nils), (11, .hole .i)], [(2, (.arr 64 (.st .entry)), .hole (.arr 64 (.st .entry)))], []⟩), (.exit 0, ⟨[(2, .hole .i), (3, .hole .i), (4, .ptr 0 []), (5, .ptr 1 []), (8, .ptr 2 [])], [(0, (.arr 64 (.st .entry)), .hole (.arr 64 (.st .entry))), (1, (.st .batch), .hole (.st .batch)), (2, (.arr 64 (.st .entry)), .hole (.arr 64 (.st .entry)))], []⟩)], 10, []⟩), (16, ⟨⟨[(2, .hole .i), (3, .hole .i), (4, .ptr 0 []), (5, .ptr 1 []), (8, .ptr 2 []), (15, .row (.st .seat)), (16, .nils), (79, .hole (.list .i)), (80, .hole .i), (81, .hole .i)], [(0, (.arr 64 (.st .entry)), .hole (.arr 64 (.st .entry))), (1, (.st .batch), .hole (.st .batch)), (2, (.arr 64 (.st .entry)), .hole (.arr 64 (.st .entry)))], []⟩, [(.exit 2, ⟨[(2, .hole .i), (3, .hole .i), (4, .ptr 0 []), (5, .ptr 1 []), (8, .ptr 2 []), (15, .row (.st .seat)), (16, .nils)], [(0, (.arr 64 (.st .entry)), .hole (.arr 64 (.st .entry))), (1, (.st .batch), .hole (.st .batch)), (2, (.arr 64 (.st .entry)), .hole (.arr 64 (.st .entry)))], []⟩)], 13, []⟩), (26, ⟨⟨[(2, .hole .i), (3, .hole .i), (4, .ptr 0 []), (8, .ptr 2 []), (15, .row (.st .seat)), (16, .row (.st .seat)), (20, .hole .i), (21, .hole .i), (22, .hole .i), (99, .hole (.list .i)), (100, .hole .i), (101, .hole .i)], [(0, (.arr 64 (.st .entry)), .hole (.arr 64 (.st .entry))), (2, (.arr 64 (.st .entry)), .hole (.arr 64 (.st .entry)))], []⟩, [(.exit 6, ⟨[(2, .hole .i), (3, .hole .i), (4, .ptr 0 []), (8, .ptr 2 []), (15, .row (.st .seat)), (16, .row (.st .seat)), (20, .hole .i), (21, .hole .i), (22, .hole .i), (99, .hole (.list .i)), (100, .hole .i), (101, .hole .i)], [(0, (.arr 64 (.st .entry)), .hole (.arr 64 (.st .entry))), (2, (.arr 64 (.st .entry)), .hole (.arr 64 (.st .entry)))], []⟩)], 12, []⟩), (23, ⟨⟨[(2, .hole .i), (3, .hole .i), (4, .ptr 0 []), (8, .ptr 2 []), (15, .row (.st .seat)), (16, .row (.st .seat)), (99, .hole (.list .i)), (100, .hole .i), (101, .hole .i)], [(0, (.arr 64 (.st .entry)), .hole (.arr 64 (.st .entry))), (2, (.arr 64 (.st .entry)), .hole (.arr 64 (.st .entry)))], []⟩, [(.exit 4, ⟨[(4, .ptr 0 []), (8, .ptr 2 []), (15, .row (.st .seat)), (16, .row (.st .seat))], [(0, (.arr 64 (.st .entry)), .hole (.arr 64 (.st .entry))), (2, (.arr 64 (.st .entry)), .hole (.arr 64 (.st .entry)))], []⟩)], 24, []⟩)]
noncomputable def Ls_ref09_Move : List (Nat × List (Nat × LD)) := []
noncomputable def B_ref09_Move : Bodies := []
theorem run_ref09_Move (x : denL [(.arr 64 (.st .entry)), (.st .batch), .i, .i]) : run [(46, c_ref09_Fits), (47, c_ref09_Find)] L_ref09_Move Ls_ref09_Move B_ref09_Move Tryd.f50 [(.arr 64 (.st .entry)), (.st .batch), .i, .i] [(.arr 64 (.st .entry)), (.list (.st .seat)), (.list (.st .seat)), .i] x = g_ref09_Move x := by kernel_rfl
theorem ok_ref09_Move : ConOK Tryd.prog 50 c_ref09_Move := con_ok (ConsOK.cons ok_ref09_Fits (ConsOK.cons ok_ref09_Find (ConsOK.nil))) L_ref09_Move Ls_ref09_Move (B := B_ref09_Move) (BodiesOK.nil) Tryd.func50 rfl fun x y hf h => (run_ref09_Move x).trans (eq_ref09_Move x y hf h)
noncomputable def L_ref11_Replaced : List (Nat × LD) := [(7, ⟨⟨[(0, .hole (.list (.st .seat))), (3, .hole (.int .u32)), (4, .hole (.int .u32)), (5, .hole .i), (12, .hole (.list (.st .seat))), (13, .hole .i), (14, .hole .i)], [], []⟩, [(.exit 2, ⟨[(0, .hole (.list (.st .seat))), (3, .hole (.int .u32)), (4, .hole (.int .u32)), (5, .hole .i)], [], []⟩)], 11, []⟩), (4, ⟨⟨[(0, .hole (.list (.st .seat))), (3, .hole (.int .u32)), (4, .hole (.int .u32)), (5, .hole .i)], [], []⟩, [(.exit 0, ⟨[(3, .hole (.int .u32))], [], []⟩)], 22, []⟩)]
noncomputable def Ls_ref11_Replaced : List (Nat × List (Nat × LD)) := []
noncomputable def B_ref11_Replaced : Bodies := []
theorem run_ref11_Replaced (x : denL [(.list (.st .seat))]) : run [(56, c_ref01_Leaf), (88, c_ref01_Below)] L_ref11_Replaced Ls_ref11_Replaced B_ref11_Replaced Tryd.f49 [(.list (.st .seat))] [(.int .u32)] x = g_ref11_Replaced x := by kernel_rfl
theorem ok_ref11_Replaced : ConOK Tryd.prog 49 c_ref11_Replaced := con_ok (ConsOK.cons ok_ref01_Leaf (ConsOK.cons ok_ref01_Below (ConsOK.nil))) L_ref11_Replaced Ls_ref11_Replaced (B := B_ref11_Replaced) (BodiesOK.nil) Tryd.func49 rfl fun x y hf h => (run_ref11_Replaced x).trans (eq_ref11_Replaced x y hf h)
noncomputable def L_ref11_Next : List (Nat × LD) := [(10, ⟨⟨[(2, .ptr 0 []), (3, .ptr 1 []), (4, .ptr 2 []), (9, .row (.st .seat)), (34, .hole (.list .i)), (35, .hole .i), (36, .hole .i)], [(0, (.st .tree), .hole (.st .tree)), (1, (.st .batch), .hole (.st .batch)), (2, (.st .tree), .hole (.st .tree))], []⟩, [(.exit 0, ⟨[(2, .ptr 0 []), (3, .ptr 1 []), (4, .ptr 2 []), (9, .row (.st .seat))], [(0, (.st .tree), .hole (.st .tree)), (1, (.st .batch), .hole (.st .batch)), (2, (.st .tree), .hole (.st .tree))], []⟩)], 13, []⟩)]
noncomputable def Ls_ref11_Next : List (Nat × List (Nat × LD)) := []
noncomputable def B_ref11_Next : Bodies := []
theorem run_ref11_Next (x : denL [(.st .tree), (.st .batch)]) : run [(45, c_ref11_Check), (46, c_ref09_Fits), (47, c_ref09_Find), (49, c_ref11_Replaced), (48, c_ref10_Turn), (50, c_ref09_Move)] L_ref11_Next Ls_ref11_Next B_ref11_Next Tryd.f27 [(.st .tree), (.st .batch)] [(.st .tree), (.list (.st .seat)), (.list (.st .seat)), .i] x = g_ref11_Next x := by kernel_rfl
theorem ok_ref11_Next : ConOK Tryd.prog 27 c_ref11_Next := con_ok (ConsOK.cons ok_ref11_Check (ConsOK.cons ok_ref09_Fits (ConsOK.cons ok_ref09_Find (ConsOK.cons ok_ref11_Replaced (ConsOK.cons ok_ref10_Turn (ConsOK.cons ok_ref09_Move (ConsOK.nil))))))) L_ref11_Next Ls_ref11_Next (B := B_ref11_Next) (BodiesOK.nil) Tryd.func27 rfl fun x y hf h => (run_ref11_Next x).trans (eq_ref11_Next x y hf h)
noncomputable def L_ref12_item : List (Nat × LD) := []
noncomputable def Ls_ref12_item : List (Nat × List (Nat × LD)) := []
noncomputable def B_ref12_item : Bodies := []
theorem run_ref12_item (x : denL [(.st .tree), .i, .i]) : run [(89, c_ref11_Of)] L_ref12_item Ls_ref12_item B_ref12_item Tryd.f54 [(.st .tree), .i, .i] [(.st .item)] x = g_ref12_item x := by kernel_rfl
theorem ok_ref12_item : ConOK Tryd.prog 54 c_ref12_item := con_ok (ConsOK.cons ok_ref11_Of (ConsOK.nil)) L_ref12_item Ls_ref12_item (B := B_ref12_item) (BodiesOK.nil) Tryd.func54 rfl fun x y hf h => (run_ref12_item x).trans (eq_ref12_item x y hf h)
noncomputable def L_ref12_Items : List (Nat × LD) := [(7, ⟨⟨[(2, .hole (.list (.st .seat))), (3, .ptr 0 []), (7, .hole (.int .u32)), (8, .row (.st .item)), (9, .hole .i), (10, .hole .i)], [(0, (.st .tree), .hole (.st .tree))], []⟩, [(.exit 2, ⟨[(2, .hole (.list (.st .seat))), (3, .ptr 0 []), (7, .hole (.int .u32)), (8, .row (.st .item)), (9, .hole .i)], [(0, (.st .tree), .hole (.st .tree))], []⟩)], 13, []⟩), (4, ⟨⟨[(2, .hole (.list (.st .seat))), (3, .ptr 0 []), (7, .hole (.int .u32)), (8, .row (.st .item)), (9, .hole .i)], [(0, (.st .tree), .hole (.st .tree))], []⟩, [(.exit 0, ⟨[(2, .hole (.list (.st .seat))), (3, .ptr 0 []), (7, .hole (.int .u32)), (8, .row (.st .item))], [(0, (.st .tree), .hole (.st .tree))], []⟩)], 25, []⟩), (17, ⟨⟨[(3, .ptr 0 []), (7, .hole (.int .u32)), (8, .row (.st .item)), (13, .ptr 27 []), (14, .ptr 28 []), (16, .hole .i), (46, .hole (.list (.st .seat))), (47, .hole .i), (48, .hole .i)], [(0, (.st .tree), .hole (.st .tree)), (27, (.st .seat), .hole (.st .seat)), (28, (.arr 3 .i), .hole (.arr 3 .i))], []⟩, [(.exit 6, ⟨[(3, .ptr 0 []), (7, .hole (.int .u32)), (8, .row (.st .item)), (46, .hole (.list (.st .seat))), (47, .hole .i), (48, .hole .i)], [(0, (.st .tree), .hole (.st .tree))], []⟩)], 13, []⟩), (13, ⟨⟨[(3, .ptr 0 []), (7, .hole (.int .u32)), (8, .row (.st .item)), (46, .hole (.list (.st .seat))), (47, .hole .i), (48, .hole .i)], [(0, (.st .tree), .hole (.st .tree))], []⟩, [(.exit 4, ⟨[(8, .row (.st .item))], [], []⟩)], 27, []⟩)]
noncomputable def Ls_ref12_Items : List (Nat × List (Nat × LD)) := []
noncomputable def B_ref12_Items : Bodies := []
theorem run_ref12_Items (x : denL [(.st .tree), (.list (.st .seat)), (.list (.st .seat))]) : run [(49, c_ref11_Replaced), (51, c_ref01_In), (52, c_ref01_Child), (53, c_ref11_Below), (54, c_ref12_item), (55, c_ref01_Path), (56, c_ref01_Leaf)] L_ref12_Items Ls_ref12_Items B_ref12_Items Tryd.f28 [(.st .tree), (.list (.st .seat)), (.list (.st .seat))] [(.list (.st .item))] x = g_ref12_Items x := by kernel_rfl
theorem ok_ref12_Items : ConOK Tryd.prog 28 c_ref12_Items := con_ok (ConsOK.cons ok_ref11_Replaced (ConsOK.cons ok_ref01_In (ConsOK.cons ok_ref01_Child (ConsOK.cons ok_ref11_Below (ConsOK.cons ok_ref12_item (ConsOK.cons ok_ref01_Path (ConsOK.cons ok_ref01_Leaf (ConsOK.nil)))))))) L_ref12_Items Ls_ref12_Items (B := B_ref12_Items) (BodiesOK.nil) Tryd.func28 rfl fun x y hf h => (run_ref12_Items x).trans (eq_ref12_Items x y hf h)
noncomputable def L_ref12_Next : List (Nat × LD) := []
noncomputable def Ls_ref12_Next : List (Nat × List (Nat × LD)) := []
noncomputable def B_ref12_Next : Bodies := []
theorem run_ref12_Next (x : denL [(.st .tree), (.st .batch)]) : run [(27, c_ref11_Next), (28, c_ref12_Items)] L_ref12_Next Ls_ref12_Next B_ref12_Next Tryd.f13 [(.st .tree), (.st .batch)] [(.st .tree), (.st .rekey), .i] x = g_ref12_Next x := by kernel_rfl
theorem ok_ref12_Next : ConOK Tryd.prog 13 c_ref12_Next := con_ok (ConsOK.cons ok_ref11_Next (ConsOK.cons ok_ref12_Items (ConsOK.nil))) L_ref12_Next Ls_ref12_Next (B := B_ref12_Next) (BodiesOK.nil) Tryd.func13 rfl fun x y hf h => (run_ref12_Next x).trans (eq_ref12_Next x y hf h)
noncomputable def L_plan_Replaced : List (Nat × LD) := [(3, ⟨⟨[(3, .hole (.int .u64)), (6, .hole (.list (.st .seat))), (7, .hole .i), (8, .hole .i)], [], []⟩, [(.exit 0, ⟨[(3, .hole (.int .u64))], [], []⟩)], 11, []⟩)]
noncomputable def Ls_plan_Replaced : List (Nat × List (Nat × LD)) := []
noncomputable def B_plan_Replaced : Bodies := []
theorem run_plan_Replaced (x : denL [(.list (.st .seat))]) : run [(80, c_shape_Leaf), (78, c_shape_Mask), (96, c_shape_Above)] L_plan_Replaced Ls_plan_Replaced B_plan_Replaced Tryd.f68 [(.list (.st .seat))] [(.int .u32)] x = g_plan_Replaced x := by kernel_rfl
theorem ok_plan_Replaced : ConOK Tryd.prog 68 c_plan_Replaced := con_ok (ConsOK.cons ok_shape_Leaf (ConsOK.cons ok_shape_Mask (ConsOK.cons ok_shape_Above (ConsOK.nil)))) L_plan_Replaced Ls_plan_Replaced (B := B_plan_Replaced) (BodiesOK.nil) Tryd.func68 rfl fun x y hf h => (run_plan_Replaced x).trans (eq_plan_Replaced x y hf h)
noncomputable def L_bits_OnesCount64 : List (Nat × LD) := []
noncomputable def Ls_bits_OnesCount64 : List (Nat × List (Nat × LD)) := []
noncomputable def B_bits_OnesCount64 : Bodies := []
theorem run_bits_OnesCount64 (x : denL [(.int .u64)]) : run [] L_bits_OnesCount64 Ls_bits_OnesCount64 B_bits_OnesCount64 Tryd.f116 [(.int .u64)] [.i] x = g_bits_OnesCount64 x := by kernel_rfl
theorem ok_bits_OnesCount64 : ConOK Tryd.prog 116 c_bits_OnesCount64 := con_ok (ConsOK.nil) L_bits_OnesCount64 Ls_bits_OnesCount64 (B := B_bits_OnesCount64) (BodiesOK.nil) Tryd.func116 rfl fun x y hf h => (run_bits_OnesCount64 x).trans (eq_bits_OnesCount64 x y hf h)
noncomputable def L_seats_Count : List (Nat × LD) := []
noncomputable def Ls_seats_Count : List (Nat × List (Nat × LD)) := []
noncomputable def B_seats_Count : Bodies := []
theorem run_seats_Count (x : denL [(.int .u64)]) : run [(116, c_bits_OnesCount64)] L_seats_Count Ls_seats_Count B_seats_Count Tryd.f95 [(.int .u64)] [.i] x = g_seats_Count x := by kernel_rfl
theorem ok_seats_Count : ConOK Tryd.prog 95 c_seats_Count := con_ok (ConsOK.cons ok_bits_OnesCount64 (ConsOK.nil)) L_seats_Count Ls_seats_Count (B := B_seats_Count) (BodiesOK.nil) Tryd.func95 rfl fun x y hf h => (run_seats_Count x).trans (eq_seats_Count x y hf h)
noncomputable def L_seats_bit : List (Nat × LD) := []
noncomputable def Ls_seats_bit : List (Nat × List (Nat × LD)) := []
noncomputable def B_seats_bit : Bodies := []
theorem run_seats_bit (x : denL [.i]) : run [] L_seats_bit Ls_seats_bit B_seats_bit Tryd.f120 [.i] [(.int .u64)] x = g_seats_bit x := by kernel_rfl
theorem ok_seats_bit : ConOK Tryd.prog 120 c_seats_bit := con_ok (ConsOK.nil) L_seats_bit Ls_seats_bit (B := B_seats_bit) (BodiesOK.nil) Tryd.func120 rfl fun x y hf h => (run_seats_bit x).trans (eq_seats_bit x y hf h)
noncomputable def L_ref09_Same : List (Nat × LD) := [(4, ⟨⟨[(0, .hole (.list (.st .seat))), (1, .hole (.list (.st .seat))), (12, .hole .i), (13, .hole .i)], [], []⟩, [(.ret, ⟨[(4, .hole .bool)], [], []⟩), (.exit 0, ⟨[], [], []⟩)], 10, []⟩)]
noncomputable def Ls_ref09_Same : List (Nat × List (Nat × LD)) := []
noncomputable def B_ref09_Same : Bodies := []
theorem run_ref09_Same (x : denL [(.list (.st .seat)), (.list (.st .seat))]) : run [] L_ref09_Same Ls_ref09_Same B_ref09_Same Tryd.f25 [(.list (.st .seat)), (.list (.st .seat))] [.bool] x = g_ref09_Same x := by kernel_rfl
theorem ok_ref09_Same : ConOK Tryd.prog 25 c_ref09_Same := con_ok (ConsOK.nil) L_ref09_Same Ls_ref09_Same (B := B_ref09_Same) (BodiesOK.nil) Tryd.func25 rfl fun x y hf h => (run_ref09_Same x).trans (eq_ref09_Same x y hf h)
noncomputable def L_ref08_Same : List (Nat × LD) := [(4, ⟨⟨[(0, .hole (.list .i)), (1, .hole (.list .i)), (12, .hole .i), (13, .hole .i)], [], []⟩, [(.ret, ⟨[(4, .hole .bool)], [], []⟩), (.exit 0, ⟨[], [], []⟩)], 10, []⟩)]
noncomputable def Ls_ref08_Same : List (Nat × List (Nat × LD)) := []
noncomputable def B_ref08_Same : Bodies := []
theorem run_ref08_Same (x : denL [(.list .i), (.list .i)]) : run [] L_ref08_Same Ls_ref08_Same B_ref08_Same Tryd.f24 [(.list .i), (.list .i)] [.bool] x = g_ref08_Same x := by kernel_rfl
theorem ok_ref08_Same : ConOK Tryd.prog 24 c_ref08_Same := con_ok (ConsOK.nil) L_ref08_Same Ls_ref08_Same (B := B_ref08_Same) (BodiesOK.nil) Tryd.func24 rfl fun x y hf h => (run_ref08_Same x).trans (eq_ref08_Same x y hf h)
noncomputable def L_ref12_SameItems : List (Nat × LD) := [(4, ⟨⟨[(0, .hole (.list (.st .item))), (1, .hole (.list (.st .item))), (12, .hole .i), (13, .hole .i)], [], []⟩, [(.ret, ⟨[(4, .hole .bool)], [], []⟩), (.exit 0, ⟨[], [], []⟩)], 10, []⟩)]
noncomputable def Ls_ref12_SameItems : List (Nat × List (Nat × LD)) := []
noncomputable def B_ref12_SameItems : Bodies := []
theorem run_ref12_SameItems (x : denL [(.list (.st .item)), (.list (.st .item))]) : run [] L_ref12_SameItems Ls_ref12_SameItems B_ref12_SameItems Tryd.f29 [(.list (.st .item)), (.list (.st .item))] [.bool] x = g_ref12_SameItems x := by kernel_rfl
theorem ok_ref12_SameItems : ConOK Tryd.prog 29 c_ref12_SameItems := con_ok (ConsOK.nil) L_ref12_SameItems Ls_ref12_SameItems (B := B_ref12_SameItems) (BodiesOK.nil) Tryd.func29 rfl fun x y hf h => (run_ref12_SameItems x).trans (eq_ref12_SameItems x y hf h)
noncomputable def L_ref12_Same : List (Nat × LD) := []
noncomputable def Ls_ref12_Same : List (Nat × List (Nat × LD)) := []
noncomputable def B_ref12_Same : Bodies := []
theorem run_ref12_Same (x : denL [(.st .rekey), (.st .rekey)]) : run [(25, c_ref09_Same), (29, c_ref12_SameItems)] L_ref12_Same Ls_ref12_Same B_ref12_Same Tryd.f14 [(.st .rekey), (.st .rekey)] [.bool] x = g_ref12_Same x := by kernel_rfl
theorem ok_ref12_Same : ConOK Tryd.prog 14 c_ref12_Same := con_ok (ConsOK.cons ok_ref09_Same (ConsOK.cons ok_ref12_SameItems (ConsOK.nil))) L_ref12_Same Ls_ref12_Same (B := B_ref12_Same) (BodiesOK.nil) Tryd.func14 rfl fun x y hf h => (run_ref12_Same x).trans (eq_ref12_Same x y hf h)
noncomputable def L_plan_nodeKey : List (Nat × LD) := []
noncomputable def Ls_plan_nodeKey : List (Nat × List (Nat × LD)) := []
noncomputable def B_plan_nodeKey : Bodies := []
theorem run_plan_nodeKey (x : denL [(.st .tree), .i]) : run [(102, c_shape_Slot), (103, c_ratchet_LeafAt)] L_plan_nodeKey Ls_plan_nodeKey B_plan_nodeKey Tryd.f75 [(.st .tree), .i] [(.st .key)] x = g_plan_nodeKey x := by kernel_rfl
theorem ok_plan_nodeKey : ConOK Tryd.prog 75 c_plan_nodeKey := con_ok (ConsOK.cons ok_shape_Slot (ConsOK.cons ok_ratchet_LeafAt (ConsOK.nil))) L_plan_nodeKey Ls_plan_nodeKey (B := B_plan_nodeKey) (BodiesOK.nil) Tryd.func75 rfl fun x y hf h => (run_plan_nodeKey x).trans (eq_plan_nodeKey x y hf h)
noncomputable def L_plan_leavers : List (Nat × LD) := [(3, ⟨⟨[(2, .ptr 0 []), (5, .row (.st .seat)), (8, .hole (.list .i)), (9, .hole .i), (10, .hole .i)], [(0, (.arr 64 (.st .entry)), .hole (.arr 64 (.st .entry)))], []⟩, [(.exit 0, ⟨[(5, .row (.st .seat))], [], []⟩)], 13, []⟩)]
noncomputable def Ls_plan_leavers : List (Nat × List (Nat × LD)) := []
noncomputable def B_plan_leavers : Bodies := []
theorem run_plan_leavers (x : denL [(.arr 64 (.st .entry)), (.list .i)]) : run [(94, c_roster_Find)] L_plan_leavers Ls_plan_leavers B_plan_leavers Tryd.f69 [(.arr 64 (.st .entry)), (.list .i)] [(.list (.st .seat))] x = g_plan_leavers x := by kernel_rfl
theorem ok_plan_leavers : ConOK Tryd.prog 69 c_plan_leavers := con_ok (ConsOK.cons ok_roster_Find (ConsOK.nil)) L_plan_leavers Ls_plan_leavers (B := B_plan_leavers) (BodiesOK.nil) Tryd.func69 rfl fun x y hf h => (run_plan_leavers x).trans (eq_plan_leavers x y hf h)
noncomputable def L_roster_names : List (Nat × LD) := []
noncomputable def Ls_roster_names : List (Nat × List (Nat × LD)) := [(114, [(2, ⟨⟨[(0, .asl 0 []), (1, .fn 118 [1, 2]), (7, .hole .i), (8, .hole .i)], [(0, (.arr 64 (.st .entry)), .hole (.arr 64 (.st .entry))), (1, .i, .hole .i), (2, .i, .hole .i)], []⟩, [(.ret, ⟨[(4, .hole .i)], [(0, (.arr 64 (.st .entry)), .hole (.arr 64 (.st .entry))), (1, .i, .hole .i), (2, .i, .hole .i)], []⟩), (.exit 0, ⟨[], [(0, (.arr 64 (.st .entry)), .hole (.arr 64 (.st .entry))), (1, .i, .hole .i), (2, .i, .hole .i)], []⟩)], 10, []⟩)])]
noncomputable def B_roster_names : Bodies := [bodyLine 118 Tryd.f118, bodyLine 117 Tryd.f117, bodyLine 114 Tryd.f114]
theorem run_roster_names (x : denL [(.arr 64 (.st .entry)), .i, .i]) : run [] L_roster_names Ls_roster_names B_roster_names Tryd.f99 [(.arr 64 (.st .entry)), .i, .i] [.bool] x = g_roster_names x := by kernel_rfl
theorem ok_roster_names : ConOK Tryd.prog 99 c_roster_names := con_ok (ConsOK.nil) L_roster_names Ls_roster_names (B := B_roster_names) (BodiesOK.cons Tryd.func118 rfl (BodiesOK.cons Tryd.func117 rfl (BodiesOK.cons Tryd.func114 rfl (BodiesOK.nil)))) Tryd.func99 rfl fun x y hf h => (run_roster_names x).trans (eq_roster_names x y hf h)
noncomputable def L_roster_Fits : List (Nat × LD) := []
noncomputable def Ls_roster_Fits : List (Nat × List (Nat × LD)) := [(93, [(2, ⟨⟨[(1, .hole .bool), (2, .hole .i), (3, .ptr 3 []), (4, .ptr 0 []), (11, .hole (.list .i)), (12, .hole .i), (13, .hole .i)], [(0, (.arr 64 (.st .entry)), .hole (.arr 64 (.st .entry))), (1, (.st .batch), .hole (.st .batch)), (3, .bool, .mp 2)], [(2, .i, .i)]⟩, [(.ret, ⟨[(8, .hole .i)], [(0, (.arr 64 (.st .entry)), .hole (.arr 64 (.st .entry))), (1, (.st .batch), .hole (.st .batch)), (3, .bool, .mp 2)], [(2, .i, .i)]⟩), (.exit 0, ⟨[], [(0, (.arr 64 (.st .entry)), .hole (.arr 64 (.st .entry))), (1, (.st .batch), .hole (.st .batch)), (3, .bool, .mp 2)], [(2, .i, .i)]⟩)], 10, []⟩)])]
noncomputable def B_roster_Fits : Bodies := [bodyLine 93 Tryd.f93]
theorem run_roster_Fits (x : denL [(.arr 64 (.st .entry)), (.st .batch)]) : run [(92, c_roster_Check), (94, c_roster_Find), (76, c_roster_Taken), (95, c_seats_Count)] L_roster_Fits Ls_roster_Fits B_roster_Fits Tryd.f67 [(.arr 64 (.st .entry)), (.st .batch)] [.i] x = g_roster_Fits x := by kernel_rfl
theorem ok_roster_Fits : ConOK Tryd.prog 67 c_roster_Fits := con_ok (ConsOK.cons ok_roster_Check (ConsOK.cons ok_roster_Find (ConsOK.cons ok_roster_Taken (ConsOK.cons ok_seats_Count (ConsOK.nil))))) L_roster_Fits Ls_roster_Fits (B := B_roster_Fits) (BodiesOK.cons Tryd.func93 rfl (BodiesOK.nil)) Tryd.func67 rfl fun x y hf h => (run_roster_Fits x).trans (eq_roster_Fits x y hf h)
end Go.Proofs.YtmjobjaajnjgjaaDoor
end

section
namespace Go.Proofs.YtmjobjaajnjgjaaDoor
open Go Go.Co Go.Co.N Go.Proofs
theorem ok_seats_Take : ConOK Tryd.prog 100 c_seats_Take := ok_seats_Take_of ok_seats_Count ok_seats_bit
noncomputable def L_roster_Move : List (Nat × LD) := [(11, ⟨⟨[(2, .hole .i), (3, .hole .i), (4, .ptr 0 []), (5, .ptr 1 []), (8, .ptr 2 []), (13, .row (.st .seat)), (14, .nils), (49, .hole (.list .i)), (50, .hole .i), (51, .hole .i)], [(0, (.arr 64 (.st .entry)), .hole (.arr 64 (.st .entry))), (1, (.st .batch), .hole (.st .batch)), (2, (.arr 64 (.st .entry)), .hole (.arr 64 (.st .entry)))], []⟩, [(.exit 1, ⟨[(2, .hole .i), (3, .hole .i), (4, .ptr 0 []), (5, .ptr 1 []), (8, .ptr 2 []), (13, .row (.st .seat)), (14, .nils)], [(0, (.arr 64 (.st .entry)), .hole (.arr 64 (.st .entry))), (1, (.st .batch), .hole (.st .batch)), (2, (.arr 64 (.st .entry)), .hole (.arr 64 (.st .entry)))], []⟩)], 13, []⟩), (19, ⟨⟨[(2, .hole .i), (3, .hole .i), (4, .ptr 0 []), (5, .ptr 1 []), (8, .ptr 2 []), (13, .row (.st .seat)), (14, .row (.st .seat)), (78, .hole (.list .i)), (79, .hole .i), (80, .hole .i)], [(0, (.arr 64 (.st .entry)), .hole (.arr 64 (.st .entry))), (1, (.st .batch), .hole (.st .batch)), (2, (.arr 64 (.st .entry)), .hole (.arr 64 (.st .entry)))], []⟩, [(.exit 3, ⟨[(4, .ptr 0 []), (8, .ptr 2 []), (13, .row (.st .seat)), (14, .row (.st .seat))], [(0, (.arr 64 (.st .entry)), .hole (.arr 64 (.st .entry))), (2, (.arr 64 (.st .entry)), .hole (.arr 64 (.st .entry)))], []⟩)], 14, []⟩)]
noncomputable def Ls_roster_Move : List (Nat × List (Nat × LD)) := []
noncomputable def B_roster_Move : Bodies := []
theorem run_roster_Move (x : denL [(.arr 64 (.st .entry)), (.st .batch), .i, .i]) : run [(67, c_roster_Fits), (99, c_roster_names), (94, c_roster_Find), (76, c_roster_Taken), (100, c_seats_Take)] L_roster_Move Ls_roster_Move B_roster_Move Tryd.f72 [(.arr 64 (.st .entry)), (.st .batch), .i, .i] [(.arr 64 (.st .entry)), (.list (.st .seat)), (.list (.st .seat)), .i] x = g_roster_Move x := by kernel_rfl
theorem ok_roster_Move : ConOK Tryd.prog 72 c_roster_Move := con_ok (ConsOK.cons ok_roster_Fits (ConsOK.cons ok_roster_names (ConsOK.cons ok_roster_Find (ConsOK.cons ok_roster_Taken (ConsOK.cons ok_seats_Take (ConsOK.nil)))))) L_roster_Move Ls_roster_Move (B := B_roster_Move) (BodiesOK.nil) Tryd.func72 rfl fun x y hf h => (run_roster_Move x).trans (eq_roster_Move x y hf h)
noncomputable def L_plan_step : List (Nat × LD) := []
noncomputable def Ls_plan_step : List (Nat × List (Nat × LD)) := []
noncomputable def B_plan_step : Bodies := []
theorem run_plan_step (x : denL [(.st .tree), (.st .batch)]) : run [(66, c_keytree_Check), (67, c_roster_Fits), (69, c_plan_leavers), (68, c_plan_Replaced), (70, c_bits_OnesCount32), (71, c_ratchet_Turn), (72, c_roster_Move)] L_plan_step Ls_plan_step B_plan_step Tryd.f43 [(.st .tree), (.st .batch)] [(.st .tree), (.st .rekey), .i] x = g_plan_step x := by kernel_rfl
theorem ok_plan_step : ConOK Tryd.prog 43 c_plan_step := con_ok (ConsOK.cons ok_keytree_Check (ConsOK.cons ok_roster_Fits (ConsOK.cons ok_plan_leavers (ConsOK.cons ok_plan_Replaced (ConsOK.cons ok_bits_OnesCount32 (ConsOK.cons ok_ratchet_Turn (ConsOK.cons ok_roster_Move (ConsOK.nil)))))))) L_plan_step Ls_plan_step (B := B_plan_step) (BodiesOK.nil) Tryd.func43 rfl fun x y hf h => (run_plan_step x).trans (eq_plan_step x y hf h)
noncomputable def L_plan_items : List (Nat × LD) := [(8, ⟨⟨[(3, .ptr 1 []), (5, .ptr 2 []), (6, .fn 73 [0, 2]), (7, .hole (.int .u64)), (8, .hole (.int .u32)), (9, .hole .i), (10, .hole .i)], [(0, (.st .tree), .hole (.st .tree)), (1, (.st .rekey), .hole (.st .rekey)), (2, (.list (.st .item)), .row (.st .item))], []⟩, [(.exit 2, ⟨[(3, .ptr 1 []), (5, .ptr 2 []), (6, .fn 73 [0, 2]), (7, .hole (.int .u64)), (8, .hole (.int .u32)), (9, .hole .i)], [(0, (.st .tree), .hole (.st .tree)), (1, (.st .rekey), .hole (.st .rekey)), (2, (.list (.st .item)), .row (.st .item))], []⟩)], 11, []⟩), (5, ⟨⟨[(3, .ptr 1 []), (5, .ptr 2 []), (6, .fn 73 [0, 2]), (7, .hole (.int .u64)), (8, .hole (.int .u32)), (9, .hole .i)], [(0, (.st .tree), .hole (.st .tree)), (1, (.st .rekey), .hole (.st .rekey)), (2, (.list (.st .item)), .row (.st .item))], []⟩, [(.exit 0, ⟨[(3, .ptr 1 []), (5, .ptr 2 []), (6, .fn 73 [0, 2]), (8, .hole (.int .u32))], [(0, (.st .tree), .hole (.st .tree)), (1, (.st .rekey), .hole (.st .rekey)), (2, (.list (.st .item)), .row (.st .item))], []⟩)], 21, []⟩), (18, ⟨⟨[(5, .ptr 2 []), (6, .fn 73 [0, 2]), (8, .hole (.int .u32)), (13, .ptr 25 []), (54, .hole (.list (.st .seat))), (55, .hole .i), (56, .hole .i), (66, .hole (.arr 3 .i)), (67, .hole .i)], [(0, (.st .tree), .hole (.st .tree)), (2, (.list (.st .item)), .row (.st .item)), (25, (.st .seat), .hole (.st .seat))], []⟩, [(.exit 6, ⟨[(5, .ptr 2 []), (6, .fn 73 [0, 2]), (8, .hole (.int .u32)), (54, .hole (.list (.st .seat))), (55, .hole .i), (56, .hole .i)], [(0, (.st .tree), .hole (.st .tree)), (2, (.list (.st .item)), .row (.st .item))], []⟩)], 11, []⟩), (14, ⟨⟨[(5, .ptr 2 []), (6, .fn 73 [0, 2]), (8, .hole (.int .u32)), (54, .hole (.list (.st .seat))), (55, .hole .i), (56, .hole .i)], [(0, (.st .tree), .hole (.st .tree)), (2, (.list (.st .item)), .row (.st .item))], []⟩, [(.exit 4, ⟨[(5, .ptr 2 [])], [(2, (.list (.st .item)), .row (.st .item))], []⟩)], 23, []⟩)]
noncomputable def Ls_plan_items : List (Nat × List (Nat × LD)) := []
noncomputable def B_plan_items : Bodies := [bodyLine 73 Tryd.f73]
theorem run_plan_items (x : denL [(.st .tree), (.st .rekey)]) : run [(75, c_plan_nodeKey), (74, c_key_Seal), (76, c_roster_Taken), (68, c_plan_Replaced), (77, c_shape_Child), (78, c_shape_Mask), (79, c_shape_Path), (80, c_shape_Leaf)] L_plan_items Ls_plan_items B_plan_items Tryd.f44 [(.st .tree), (.st .rekey)] [(.list (.st .item))] x = g_plan_items x := by kernel_rfl
theorem ok_plan_items : ConOK Tryd.prog 44 c_plan_items := con_ok (ConsOK.cons ok_plan_nodeKey (ConsOK.cons ok_key_Seal (ConsOK.cons ok_roster_Taken (ConsOK.cons ok_plan_Replaced (ConsOK.cons ok_shape_Child (ConsOK.cons ok_shape_Mask (ConsOK.cons ok_shape_Path (ConsOK.cons ok_shape_Leaf (ConsOK.nil))))))))) L_plan_items Ls_plan_items (B := B_plan_items) (BodiesOK.cons Tryd.func73 rfl (BodiesOK.nil)) Tryd.func44 rfl fun x y hf h => (run_plan_items x).trans (eq_plan_items x y hf h)
noncomputable def L_plan_Next : List (Nat × LD) := []
noncomputable def Ls_plan_Next : List (Nat × List (Nat × LD)) := []
noncomputable def B_plan_Next : Bodies := []
theorem run_plan_Next (x : denL [(.st .tree), (.st .batch)]) : run [(43, c_plan_step), (44, c_plan_items)] L_plan_Next Ls_plan_Next B_plan_Next Tryd.f22 [(.st .tree), (.st .batch)] [(.st .tree), (.st .rekey), .i] x = g_plan_Next x := by kernel_rfl
theorem ok_plan_Next : ConOK Tryd.prog 22 c_plan_Next := con_ok (ConsOK.cons ok_plan_step (ConsOK.cons ok_plan_items (ConsOK.nil))) L_plan_Next Ls_plan_Next (B := B_plan_Next) (BodiesOK.nil) Tryd.func22 rfl fun x y hf h => (run_plan_Next x).trans (eq_plan_Next x y hf h)
end Go.Proofs.YtmjobjaajnjgjaaDoor
end

section
namespace Go.Proofs.YtmjobjaajnjgjaaDoor
open Go Go.Co Go.Co.N Go.Proofs
noncomputable def L_bits_fits : List (Nat × LD) := []
noncomputable def Ls_bits_fits : List (Nat × List (Nat × LD)) := []
noncomputable def B_bits_fits : Bodies := []
theorem run_bits_fits (x : denL [(.int .u64), .i]) : run [] L_bits_fits Ls_bits_fits B_bits_fits Tryd.f58 [(.int .u64), .i] [.bool] x = g_bits_fits x := by kernel_rfl
theorem ok_bits_fits : ConOK Tryd.prog 58 c_bits_fits := con_ok (ConsOK.nil) L_bits_fits Ls_bits_fits (B := B_bits_fits) (BodiesOK.nil) Tryd.func58 rfl fun x y hf h => (run_bits_fits x).trans (eq_bits_fits x y hf h)
noncomputable def L_record_between : List (Nat × LD) := []
noncomputable def Ls_record_between : List (Nat × List (Nat × LD)) := []
noncomputable def B_record_between : Bodies := []
theorem run_record_between (x : denL [.i, .i, .i]) : run [] L_record_between Ls_record_between B_record_between Tryd.f57 [.i, .i, .i] [.bool] x = g_record_between x := by kernel_rfl
theorem ok_record_between : ConOK Tryd.prog 57 c_record_between := con_ok (ConsOK.nil) L_record_between Ls_record_between (B := B_record_between) (BodiesOK.nil) Tryd.func57 rfl fun x y hf h => (run_record_between x).trans (eq_record_between x y hf h)
noncomputable def L_record_right : List (Nat × LD) := [(4, ⟨⟨[(1, .ptr 0 []), (28, .hole (.list .i)), (29, .hole .i), (30, .hole .i)], [(0, (.st .record), .hole (.st .record))], []⟩, [(.ret, ⟨[(2, .hole .bool)], [], []⟩), (.exit 0, ⟨[(1, .ptr 0 [])], [(0, (.st .record), .hole (.st .record))], []⟩)], 10, []⟩), (10, ⟨⟨[(39, .hole (.list (.st .seat))), (40, .hole .i), (41, .hole .i)], [], []⟩, [(.ret, ⟨[(2, .hole .bool)], [], []⟩), (.exit 2, ⟨[], [], []⟩)], 11, []⟩)]
noncomputable def Ls_record_right : List (Nat × List (Nat × LD)) := []
noncomputable def B_record_right : Bodies := []
theorem run_record_right (x : denL [(.st .record)]) : run [(57, c_record_between)] L_record_right Ls_record_right B_record_right Tryd.f30 [(.st .record)] [.bool] x = g_record_right x := by kernel_rfl
theorem ok_record_right : ConOK Tryd.prog 30 c_record_right := con_ok (ConsOK.cons ok_record_between (ConsOK.nil)) L_record_right Ls_record_right (B := B_record_right) (BodiesOK.nil) Tryd.func30 rfl fun x y hf h => (run_record_right x).trans (eq_record_right x y hf h)
noncomputable def L_ref13_Right : List (Nat × LD) := [(4, ⟨⟨[(1, .ptr 0 []), (38, .hole (.list .i)), (39, .hole .i), (40, .hole .i)], [(0, (.st .record), .hole (.st .record))], []⟩, [(.ret, ⟨[(2, .hole .bool)], [], []⟩), (.exit 0, ⟨[(1, .ptr 0 [])], [(0, (.st .record), .hole (.st .record))], []⟩)], 10, []⟩), (10, ⟨⟨[(52, .hole (.list (.st .seat))), (53, .hole .i), (54, .hole .i)], [], []⟩, [(.ret, ⟨[(2, .hole .bool)], [], []⟩), (.exit 2, ⟨[], [], []⟩)], 11, []⟩)]
noncomputable def Ls_ref13_Right : List (Nat × List (Nat × LD)) := []
noncomputable def B_ref13_Right : Bodies := []
theorem run_ref13_Right (x : denL [(.st .record)]) : run [] L_ref13_Right Ls_ref13_Right B_ref13_Right Tryd.f20 [(.st .record)] [.bool] x = g_ref13_Right x := by kernel_rfl
theorem ok_ref13_Right : ConOK Tryd.prog 20 c_ref13_Right := con_ok (ConsOK.nil) L_ref13_Right Ls_ref13_Right (B := B_ref13_Right) (BodiesOK.nil) Tryd.func20 rfl fun x y hf h => (run_ref13_Right x).trans (eq_ref13_Right x y hf h)
noncomputable def L_record_Write : List (Nat × LD) := [(9, ⟨⟨[(1, .ptr 0 []), (4, .ptr 2 []), (5, .fn 32 [2]), (29, .hole (.list .i)), (30, .hole .i), (31, .hole .i)], [(1, (.st .writer), .agv  .writer (.cons (.hole (.st .counter)) (.cons (.row (.int .u8)) (.nil)))), (2, .bool, .ptr 1 [])], []⟩, [(.exit 0, ⟨[(1, .ptr 0 []), (4, .ptr 2 []), (5, .fn 32 [2])], [(1, (.st .writer), .agv  .writer (.cons (.hole (.st .counter)) (.cons (.row (.int .u8)) (.nil)))), (2, .bool, .ptr 1 [])], []⟩)], 98, [1000000, 1, 2, 135]⟩), (15, ⟨⟨[(4, .ptr 2 []), (5, .fn 32 [2]), (45, .hole (.list (.st .seat))), (46, .hole .i), (47, .hole .i)], [(1, (.st .writer), .agv  .writer (.cons (.hole (.st .counter)) (.cons (.row (.int .u8)) (.nil)))), (2, .bool, .ptr 1 [])], []⟩, [(.exit 2, ⟨[(4, .ptr 2 [])], [(1, (.st .writer), .agv  .writer (.cons (.hole (.st .counter)) (.cons (.row (.int .u8)) (.nil)))), (2, .bool, .ptr 1 [])], []⟩)], 165, [1000000, 1, 2, 299]⟩)]
noncomputable def Ls_record_Write : List (Nat × List (Nat × LD)) := [(33, [(1000000, ⟨⟨[(0, .ptr 1 []), (1, .hole (.int .u64)), (2, .hole .i)], [(1, (.st .writer), .agv  .writer (.cons (.hole (.st .counter)) (.cons (.row (.int .u8)) (.nil))))], []⟩, [(.ret, ⟨[(6, .hole .i)], [(1, (.st .writer), .agv  .writer (.cons (.hole (.st .counter)) (.cons (.row (.int .u8)) (.nil))))], []⟩)], 66, [1000000, 1, 367]⟩), (4, ⟨⟨[(0, .ptr 1 []), (1, .hole (.int .u64)), (7, .hole .i)], [(1, (.st .writer), .agv  .writer (.cons (.hole (.st .counter)) (.cons (.row (.int .u8)) (.nil))))], []⟩, [(.exit 0, ⟨[], [(1, (.st .writer), .agv  .writer (.cons (.hole (.st .counter)) (.cons (.row (.int .u8)) (.nil))))], []⟩)], 34, [1000000, 1, 433]⟩), (1000000, ⟨⟨[(0, .ptr 1 []), (1, .hole (.int .u64)), (2, .hole .i)], [(1, (.st .writer), .agv  .writer (.cons (.hole (.st .counter)) (.cons (.row (.int .u8)) (.nil))))], []⟩, [(.ret, ⟨[(6, .hole .i)], [(1, (.st .writer), .agv  .writer (.cons (.hole (.st .counter)) (.cons (.row (.int .u8)) (.nil))))], []⟩)], 66, [1000000, 1, 365]⟩), (4, ⟨⟨[(0, .ptr 1 []), (1, .hole (.int .u64)), (7, .hole .i)], [(1, (.st .writer), .agv  .writer (.cons (.hole (.st .counter)) (.cons (.row (.int .u8)) (.nil))))], []⟩, [(.exit 0, ⟨[], [(1, (.st .writer), .agv  .writer (.cons (.hole (.st .counter)) (.cons (.row (.int .u8)) (.nil))))], []⟩)], 34, [1000000, 1, 367]⟩), (4, ⟨⟨[(0, .ptr 1 []), (1, .hole (.int .u64)), (7, .hole .i)], [(1, (.st .writer), .agv  .writer (.cons (.hole (.st .counter)) (.cons (.row (.int .u8)) (.nil))))], []⟩, [(.exit 0, ⟨[], [(1, (.st .writer), .agv  .writer (.cons (.hole (.st .counter)) (.cons (.row (.int .u8)) (.nil))))], []⟩)], 34, [1000000, 1, 299]⟩), (1000000, ⟨⟨[(0, .ptr 1 []), (1, .hole (.int .u64)), (2, .hole .i)], [(1, (.st .writer), .agv  .writer (.cons (.hole (.st .counter)) (.cons (.row (.int .u8)) (.nil))))], []⟩, [(.ret, ⟨[(6, .hole .i)], [(1, (.st .writer), .agv  .writer (.cons (.hole (.st .counter)) (.cons (.row (.int .u8)) (.nil))))], []⟩)], 66, [1000000, 1, 201]⟩), (4, ⟨⟨[(0, .ptr 1 []), (1, .hole (.int .u64)), (7, .hole .i)], [(1, (.st .writer), .agv  .writer (.cons (.hole (.st .counter)) (.cons (.row (.int .u8)) (.nil))))], []⟩, [(.exit 0, ⟨[], [(1, (.st .writer), .agv  .writer (.cons (.hole (.st .counter)) (.cons (.row (.int .u8)) (.nil))))], []⟩)], 34, [1000000, 1, 202]⟩), (1000000, ⟨⟨[(0, .ptr 1 []), (1, .hole (.int .u64)), (2, .hole .i)], [(1, (.st .writer), .agv  .writer (.cons (.hole (.st .counter)) (.cons (.row (.int .u8)) (.nil))))], []⟩, [(.ret, ⟨[(6, .hole .i)], [(1, (.st .writer), .agv  .writer (.cons (.hole (.st .counter)) (.cons (.row (.int .u8)) (.nil))))], []⟩)], 66, [1000000, 1, 69]⟩), (4, ⟨⟨[(0, .ptr 1 []), (1, .hole (.int .u64)), (7, .hole .i)], [(1, (.st .writer), .agv  .writer (.cons (.hole (.st .counter)) (.cons (.row (.int .u8)) (.nil))))], []⟩, [(.exit 0, ⟨[], [(1, (.st .writer), .agv  .writer (.cons (.hole (.st .counter)) (.cons (.row (.int .u8)) (.nil))))], []⟩)], 34, [1000000, 1, 135]⟩), (1000000, ⟨⟨[(0, .ptr 1 []), (1, .hole (.int .u64)), (2, .hole .i)], [(1, (.st .writer), .agv  .writer (.cons (.hole (.st .counter)) (.cons (.row (.int .u8)) (.nil))))], []⟩, [(.ret, ⟨[(6, .hole .i)], [(1, (.st .writer), .agv  .writer (.cons (.hole (.st .counter)) (.cons (.row (.int .u8)) (.nil))))], []⟩)], 66, [1000000, 1, 3]⟩), (4, ⟨⟨[(0, .ptr 1 []), (1, .hole (.int .u64)), (7, .hole .i)], [(1, (.st .writer), .agv  .writer (.cons (.hole (.st .counter)) (.cons (.row (.int .u8)) (.nil))))], []⟩, [(.exit 0, ⟨[], [(1, (.st .writer), .agv  .writer (.cons (.hole (.st .counter)) (.cons (.row (.int .u8)) (.nil))))], []⟩)], 34, [1000000, 1, 69]⟩), (1000000, ⟨⟨[(0, .ptr 1 []), (1, .hole (.int .u64)), (2, .hole .i)], [(1, (.st .writer), .agv  .writer (.cons (.hole (.st .counter)) (.cons (.row (.int .u8)) (.nil))))], []⟩, [(.ret, ⟨[(6, .hole .i)], [(1, (.st .writer), .agv  .writer (.cons (.hole (.st .counter)) (.cons (.row (.int .u8)) (.nil))))], []⟩)], 66, [1000000, 1]⟩), (4, ⟨⟨[(0, .ptr 1 []), (1, .hole (.int .u64)), (7, .hole .i)], [(1, (.st .writer), .agv  .writer (.cons (.hole (.st .counter)) (.cons (.row (.int .u8)) (.nil))))], []⟩, [(.exit 0, ⟨[], [(1, (.st .writer), .agv  .writer (.cons (.hole (.st .counter)) (.cons (.row (.int .u8)) (.nil))))], []⟩)], 34, [1000000, 1, 3]⟩)])]
noncomputable def B_record_Write : Bodies := [bodyLine 31 Tryd.f31, bodyLine 32 Tryd.f32, bodyLine 33 Tryd.f33, bodyLine 59 Tryd.f59, bodyLine 60 Tryd.f60, bodyLine 34 Tryd.f34]
theorem run_record_Write (x : denL [(.st .record)]) : run [(30, c_record_right), (58, c_bits_fits)] L_record_Write Ls_record_Write B_record_Write Tryd.f16 [(.st .record)] [.str, .i] x = g_record_Write x := by kernel_rfl
theorem ok_record_Write : ConOK Tryd.prog 16 c_record_Write := con_ok (ConsOK.cons ok_record_right (ConsOK.cons ok_bits_fits (ConsOK.nil))) L_record_Write Ls_record_Write (B := B_record_Write) (BodiesOK.cons Tryd.func31 rfl (BodiesOK.cons Tryd.func32 rfl (BodiesOK.cons Tryd.func33 rfl (BodiesOK.cons Tryd.func59 rfl (BodiesOK.cons Tryd.func60 rfl (BodiesOK.cons Tryd.func34 rfl (BodiesOK.nil))))))) Tryd.func16 rfl fun x y hf h => (run_record_Write x).trans (eq_record_Write x y hf h)
noncomputable def L_record_Read : List (Nat × LD) := [(6, ⟨⟨[(2, .ptr 0 []), (4, .ptr 2 []), (5, .ptr 3 []), (6, .fn 38 [2, 3]), (7, .ptr 184 []), (18, .hole .i), (19, .hole .i)], [(1, (.st .breader), .hole (.st .breader)), (2, .bool, .ptr 1 []), (3, .bool, .hole .bool), (184, (.st .record), .agv  .record (.cons (.hole .i) (.cons (.hole .i) (.cons (.row .i) (.cons (.nils) (.nil))))))], []⟩, [(.exit 0, ⟨[(2, .ptr 0 []), (4, .ptr 2 []), (5, .ptr 3 []), (6, .fn 38 [2, 3]), (7, .ptr 184 [])], [(1, (.st .breader), .hole (.st .breader)), (2, .bool, .ptr 1 []), (3, .bool, .hole .bool), (184, (.st .record), .agv  .record (.cons (.hole .i) (.cons (.hole .i) (.cons (.row .i) (.cons (.nils) (.nil))))))], []⟩)], 124, [1000000, 1, 2, 3, 184]⟩), (10, ⟨⟨[(2, .ptr 0 []), (4, .ptr 2 []), (5, .ptr 3 []), (6, .fn 38 [2, 3]), (7, .ptr 184 []), (30, .hole .i), (31, .hole .i)], [(1, (.st .breader), .hole (.st .breader)), (2, .bool, .ptr 1 []), (3, .bool, .hole .bool), (184, (.st .record), .agv  .record (.cons (.hole .i) (.cons (.hole .i) (.cons (.slf 275) (.cons (.row (.st .seat)) (.nil))))))], []⟩, [(.exit 2, ⟨[(2, .ptr 0 []), (4, .ptr 2 []), (5, .ptr 3 []), (7, .ptr 184 [])], [(1, (.st .breader), .hole (.st .breader)), (2, .bool, .ptr 1 []), (3, .bool, .hole .bool), (184, (.st .record), .agv  .record (.cons (.hole .i) (.cons (.hole .i) (.cons (.slf 275) (.cons (.row (.st .seat)) (.nil))))))], []⟩)], 214, [1000000, 1, 2, 3, 184]⟩)]
noncomputable def Ls_record_Read : List (Nat × List (Nat × LD)) := [(38, [(1000000, ⟨⟨[(0, .hole .i), (1, .ptr 2 []), (2, .ptr 3 [])], [(1, (.st .breader), .hole (.st .breader)), (2, .bool, .ptr 1 []), (3, .bool, .hole .bool)], []⟩, [(.ret, ⟨[(4, .hole .i)], [(1, (.st .breader), .hole (.st .breader)), (2, .bool, .ptr 1 []), (3, .bool, .hole .bool)], []⟩)], 90, [1000000, 1, 2, 3]⟩)]), (39, [(1000000, ⟨⟨[(0, .ptr 1 []), (1, .hole .i)], [(1, (.st .breader), .hole (.st .breader))], []⟩, [(.ret, ⟨[(4, .hole (.int .u64)), (5, .hole .i)], [(1, (.st .breader), .hole (.st .breader))], []⟩)], 60, [1000000, 1]⟩), (5, ⟨⟨[(0, .ptr 1 []), (6, .hole (.int .u64)), (7, .hole .i)], [(1, (.st .breader), .hole (.st .breader))], []⟩, [(.exit 0, ⟨[(6, .hole (.int .u64))], [(1, (.st .breader), .hole (.st .breader))], []⟩)], 30, [1000000, 1]⟩)])]
noncomputable def B_record_Read : Bodies := [bodyLine 37 Tryd.f37, bodyLine 38 Tryd.f38, bodyLine 39 Tryd.f39, bodyLine 64 Tryd.f64, bodyLine 60 Tryd.f60, bodyLine 40 Tryd.f40]
theorem run_record_Read (x : denL [.str]) : run [(30, c_record_right)] L_record_Read Ls_record_Read B_record_Read Tryd.f18 [.str] [(.st .record), .i] x = g_record_Read x := by kernel_rfl
theorem ok_record_Read : ConOK Tryd.prog 18 c_record_Read := con_ok (ConsOK.cons ok_record_right (ConsOK.nil)) L_record_Read Ls_record_Read (B := B_record_Read) (BodiesOK.cons Tryd.func37 rfl (BodiesOK.cons Tryd.func38 rfl (BodiesOK.cons Tryd.func39 rfl (BodiesOK.cons Tryd.func64 rfl (BodiesOK.cons Tryd.func60 rfl (BodiesOK.cons Tryd.func40 rfl (BodiesOK.nil))))))) Tryd.func18 rfl fun x y hf h => (run_record_Read x).trans (eq_record_Read x y hf h)
noncomputable def L_ref13_Same : List (Nat × LD) := []
noncomputable def Ls_ref13_Same : List (Nat × List (Nat × LD)) := []
noncomputable def B_ref13_Same : Bodies := []
theorem run_ref13_Same (x : denL [(.st .record), (.st .record)]) : run [(24, c_ref08_Same), (25, c_ref09_Same)] L_ref13_Same Ls_ref13_Same B_ref13_Same Tryd.f11 [(.st .record), (.st .record)] [.bool] x = g_ref13_Same x := by kernel_rfl
theorem ok_ref13_Same : ConOK Tryd.prog 11 c_ref13_Same := con_ok (ConsOK.cons ok_ref08_Same (ConsOK.cons ok_ref09_Same (ConsOK.nil))) L_ref13_Same Ls_ref13_Same (B := B_ref13_Same) (BodiesOK.nil) Tryd.func11 rfl fun x y hf h => (run_ref13_Same x).trans (eq_ref13_Same x y hf h)
noncomputable def L_ref13_Of : List (Nat × LD) := []
noncomputable def Ls_ref13_Of : List (Nat × List (Nat × LD)) := []
noncomputable def B_ref13_Of : Bodies := []
theorem run_ref13_Of (x : denL [(.st .tree), (.st .batch)]) : run [(13, c_ref12_Next)] L_ref13_Of Ls_ref13_Of B_ref13_Of Tryd.f10 [(.st .tree), (.st .batch)] [(.st .record), .i] x = g_ref13_Of x := by kernel_rfl
theorem ok_ref13_Of : ConOK Tryd.prog 10 c_ref13_Of := con_ok (ConsOK.cons ok_ref12_Next (ConsOK.nil)) L_ref13_Of Ls_ref13_Of (B := B_ref13_Of) (BodiesOK.nil) Tryd.func10 rfl fun x y hf h => (run_ref13_Of x).trans (eq_ref13_Of x y hf h)
noncomputable def L_record_Of : List (Nat × LD) := []
noncomputable def Ls_record_Of : List (Nat × List (Nat × LD)) := []
noncomputable def B_record_Of : Bodies := []
theorem run_record_Of (x : denL [(.st .tree), (.st .batch)]) : run [(22, c_plan_Next), (23, c_slices_Clone)] L_record_Of Ls_record_Of B_record_Of Tryd.f9 [(.st .tree), (.st .batch)] [(.st .record), .i] x = g_record_Of x := by kernel_rfl
theorem ok_record_Of : ConOK Tryd.prog 9 c_record_Of := con_ok (ConsOK.cons ok_plan_Next (ConsOK.cons ok_slices_Clone (ConsOK.nil))) L_record_Of Ls_record_Of (B := B_record_Of) (BodiesOK.nil) Tryd.func9 rfl fun x y hf h => (run_record_Of x).trans (eq_record_Of x y hf h)
noncomputable def L_slices_Equal : List (Nat × LD) := [(4, ⟨⟨[(0, .hole (.list (.st .seat))), (1, .hole (.list (.st .seat))), (12, .hole .i), (13, .hole .i)], [], []⟩, [(.ret, ⟨[(4, .hole .bool)], [], []⟩), (.exit 0, ⟨[], [], []⟩)], 10, []⟩)]
noncomputable def Ls_slices_Equal : List (Nat × List (Nat × LD)) := []
noncomputable def B_slices_Equal : Bodies := []
theorem run_slices_Equal (x : denL [(.list (.st .seat)), (.list (.st .seat))]) : run [] L_slices_Equal Ls_slices_Equal B_slices_Equal Tryd.f26 [(.list (.st .seat)), (.list (.st .seat))] [.bool] x = g_slices_Equal x := by kernel_rfl
theorem ok_slices_Equal : ConOK Tryd.prog 26 c_slices_Equal := con_ok (ConsOK.nil) L_slices_Equal Ls_slices_Equal (B := B_slices_Equal) (BodiesOK.nil) Tryd.func26 rfl fun x y hf h => (run_slices_Equal x).trans (eq_slices_Equal x y hf h)
noncomputable def L_record_Play : List (Nat × LD) := [(3, ⟨⟨[(2, .ptr 0 []), (3, .ptr 1 []), (4, .ptr 2 []), (5, .ptr 3 []), (7, .ptr 4 []), (17, .hole (.list (.st .seat))), (18, .hole .i), (19, .hole .i)], [(0, (.st .tree), .hole (.st .tree)), (1, (.st .record), .hole (.st .record)), (2, (.st .tree), .hole (.st .tree)), (3, (.st .rekey), .agv  .rekey (.cons (.hole .i) (.cons (.nils) (.cons (.nils) (.cons (.nils) (.nil)))))), (4, (.st .batch), .agv  .batch (.cons (.hole (.list .i)) (.cons (.row .i) (.nil))))], []⟩, [(.exit 0, ⟨[(2, .ptr 0 []), (3, .ptr 1 []), (4, .ptr 2 []), (5, .ptr 3 []), (7, .ptr 4 [])], [(0, (.st .tree), .hole (.st .tree)), (1, (.st .record), .hole (.st .record)), (2, (.st .tree), .hole (.st .tree)), (3, (.st .rekey), .agv  .rekey (.cons (.hole .i) (.cons (.nils) (.cons (.nils) (.cons (.nils) (.nil)))))), (4, (.st .batch), .agv  .batch (.cons (.hole (.list .i)) (.cons (.row .i) (.nil))))], []⟩)], 14, []⟩)]
noncomputable def Ls_record_Play : List (Nat × List (Nat × LD)) := []
noncomputable def B_record_Play : Bodies := []
theorem run_record_Play (x : denL [(.st .tree), (.st .record)]) : run [(22, c_plan_Next), (26, c_slices_Equal)] L_record_Play Ls_record_Play B_record_Play Tryd.f12 [(.st .tree), (.st .record)] [(.st .tree), (.st .rekey), .i] x = g_record_Play x := by kernel_rfl
theorem ok_record_Play : ConOK Tryd.prog 12 c_record_Play := con_ok (ConsOK.cons ok_plan_Next (ConsOK.cons ok_slices_Equal (ConsOK.nil))) L_record_Play Ls_record_Play (B := B_record_Play) (BodiesOK.nil) Tryd.func12 rfl fun x y hf h => (run_record_Play x).trans (eq_record_Play x y hf h)
noncomputable def L_ref13_Play : List (Nat × LD) := [(3, ⟨⟨[(2, .ptr 0 []), (3, .ptr 1 []), (4, .ptr 2 []), (5, .ptr 3 []), (7, .ptr 4 []), (19, .hole (.list (.st .seat))), (20, .hole .i), (21, .hole .i)], [(0, (.st .tree), .hole (.st .tree)), (1, (.st .record), .hole (.st .record)), (2, (.st .tree), .hole (.st .tree)), (3, (.st .rekey), .agv  .rekey (.cons (.hole .i) (.cons (.nils) (.cons (.nils) (.cons (.nils) (.nil)))))), (4, (.st .batch), .agv  .batch (.cons (.hole (.list .i)) (.cons (.row .i) (.nil))))], []⟩, [(.exit 0, ⟨[(2, .ptr 0 []), (3, .ptr 1 []), (4, .ptr 2 []), (5, .ptr 3 []), (7, .ptr 4 [])], [(0, (.st .tree), .hole (.st .tree)), (1, (.st .record), .hole (.st .record)), (2, (.st .tree), .hole (.st .tree)), (3, (.st .rekey), .agv  .rekey (.cons (.hole .i) (.cons (.nils) (.cons (.nils) (.cons (.nils) (.nil)))))), (4, (.st .batch), .agv  .batch (.cons (.hole (.list .i)) (.cons (.row .i) (.nil))))], []⟩)], 14, []⟩)]
noncomputable def Ls_ref13_Play : List (Nat × List (Nat × LD)) := []
noncomputable def B_ref13_Play : Bodies := []
theorem run_ref13_Play (x : denL [(.st .tree), (.st .record)]) : run [(10, c_ref13_Of), (11, c_ref13_Same), (13, c_ref12_Next)] L_ref13_Play Ls_ref13_Play B_ref13_Play Tryd.f15 [(.st .tree), (.st .record)] [(.st .tree), (.st .rekey), .i] x = g_ref13_Play x := by kernel_rfl
theorem ok_ref13_Play : ConOK Tryd.prog 15 c_ref13_Play := con_ok (ConsOK.cons ok_ref13_Of (ConsOK.cons ok_ref13_Same (ConsOK.cons ok_ref12_Next (ConsOK.nil)))) L_ref13_Play Ls_ref13_Play (B := B_ref13_Play) (BodiesOK.nil) Tryd.func15 rfl fun x y hf h => (run_ref13_Play x).trans (eq_ref13_Play x y hf h)
end Go.Proofs.YtmjobjaajnjgjaaDoor
end

section
namespace Go.Proofs.YtmjobjaajnjgjaaDoor
open Go Go.Co Go.Co.N Go.Proofs
noncomputable def L_law13_lives : List (Nat × LD) := []
noncomputable def Ls_law13_lives : List (Nat × List (Nat × LD)) := []
noncomputable def B_law13_lives : Bodies := []
theorem run_law13_lives (x : denL []) : run [(21, c_ref11_Start), (9, c_record_Of), (16, c_record_Write)] L_law13_lives Ls_law13_lives B_law13_lives Tryd.f8 [] [.bool] x = g_law13_lives x := by kernel_rfl
theorem ok_law13_lives : ConOK Tryd.prog 8 c_law13_lives := con_ok (ConsOK.cons ok_ref11_Start (ConsOK.cons ok_record_Of (ConsOK.cons ok_record_Write (ConsOK.nil)))) L_law13_lives Ls_law13_lives (B := B_law13_lives) (BodiesOK.nil) Tryd.func8 rfl fun x y hf h => (run_law13_lives x).trans (eq_law13_lives x y hf h)
noncomputable def L_law13_RecordBack : List (Nat × LD) := []
noncomputable def Ls_law13_RecordBack : List (Nat × List (Nat × LD)) := []
noncomputable def B_law13_RecordBack : Bodies := []
theorem run_law13_RecordBack (x : denL [(.st .record), .str]) : run [(8, c_law13_lives), (16, c_record_Write), (20, c_ref13_Right), (18, c_record_Read), (11, c_ref13_Same)] L_law13_RecordBack Ls_law13_RecordBack B_law13_RecordBack Tryd.f6 [(.st .record), .str] [.bool] x = g_law13_RecordBack x := by kernel_rfl
theorem ok_law13_RecordBack : ConOK Tryd.prog 6 c_law13_RecordBack := con_ok (ConsOK.cons ok_law13_lives (ConsOK.cons ok_record_Write (ConsOK.cons ok_ref13_Right (ConsOK.cons ok_record_Read (ConsOK.cons ok_ref13_Same (ConsOK.nil)))))) L_law13_RecordBack Ls_law13_RecordBack (B := B_law13_RecordBack) (BodiesOK.nil) Tryd.func6 rfl fun x y hf h => (run_law13_RecordBack x).trans (eq_law13_RecordBack x y hf h)
noncomputable def L_law13_RecordOf : List (Nat × LD) := []
noncomputable def Ls_law13_RecordOf : List (Nat × List (Nat × LD)) := []
noncomputable def B_law13_RecordOf : Bodies := []
theorem run_law13_RecordOf (x : denL [(.st .tree), (.st .batch)]) : run [(8, c_law13_lives), (9, c_record_Of), (10, c_ref13_Of), (11, c_ref13_Same), (12, c_record_Play), (13, c_ref12_Next), (14, c_ref12_Same)] L_law13_RecordOf Ls_law13_RecordOf B_law13_RecordOf Tryd.f3 [(.st .tree), (.st .batch)] [.bool] x = g_law13_RecordOf x := by kernel_rfl
theorem ok_law13_RecordOf : ConOK Tryd.prog 3 c_law13_RecordOf := con_ok (ConsOK.cons ok_law13_lives (ConsOK.cons ok_record_Of (ConsOK.cons ok_ref13_Of (ConsOK.cons ok_ref13_Same (ConsOK.cons ok_record_Play (ConsOK.cons ok_ref12_Next (ConsOK.cons ok_ref12_Same (ConsOK.nil)))))))) L_law13_RecordOf Ls_law13_RecordOf (B := B_law13_RecordOf) (BodiesOK.nil) Tryd.func3 rfl fun x y hf h => (run_law13_RecordOf x).trans (eq_law13_RecordOf x y hf h)
noncomputable def L_law13_RecordPlays : List (Nat × LD) := []
noncomputable def Ls_law13_RecordPlays : List (Nat × List (Nat × LD)) := []
noncomputable def B_law13_RecordPlays : Bodies := []
theorem run_law13_RecordPlays (x : denL [(.st .tree), (.st .record)]) : run [(8, c_law13_lives), (12, c_record_Play), (15, c_ref13_Play), (14, c_ref12_Same)] L_law13_RecordPlays Ls_law13_RecordPlays B_law13_RecordPlays Tryd.f4 [(.st .tree), (.st .record)] [.bool] x = g_law13_RecordPlays x := by kernel_rfl
theorem ok_law13_RecordPlays : ConOK Tryd.prog 4 c_law13_RecordPlays := con_ok (ConsOK.cons ok_law13_lives (ConsOK.cons ok_record_Play (ConsOK.cons ok_ref13_Play (ConsOK.cons ok_ref12_Same (ConsOK.nil))))) L_law13_RecordPlays Ls_law13_RecordPlays (B := B_law13_RecordPlays) (BodiesOK.nil) Tryd.func4 rfl fun x y hf h => (run_law13_RecordPlays x).trans (eq_law13_RecordPlays x y hf h)
noncomputable def L_law13_RecordRuns : List (Nat × LD) := [(7, ⟨⟨[(3, .ptr 0 []), (4, .row .str), (5, .row (.st .tree)), (23, .hole (.list (.st .batch))), (24, .hole .i), (25, .hole .i)], [(0, (.st .tree), .hole (.st .tree))], []⟩, [(.ret, ⟨[(2, .hole .bool)], [(0, (.st .tree), .hole (.st .tree))], []⟩), (.exit 0, ⟨[(3, .ptr 0 []), (4, .row .str), (5, .row (.st .tree))], [(0, (.st .tree), .hole (.st .tree))], []⟩)], 42, [1000000, 0]⟩), (23, ⟨⟨[(3, .ptr 0 []), (5, .slf 2), (65, .slf 1), (66, .hole .i), (67, .hole .i)], [(0, (.st .tree), .hole (.st .tree))], [(1, .unit, .str), (2, .unit, (.st .tree))]⟩, [(.ret, ⟨[(2, .hole .bool)], [(0, (.st .tree), .hole (.st .tree))], [(1, .unit, .str), (2, .unit, (.st .tree))]⟩), (.exit 2, ⟨[], [(0, (.st .tree), .hole (.st .tree))], [(1, .unit, .str), (2, .unit, (.st .tree))]⟩)], 33, [1000000, 0, 1, 2]⟩)]
noncomputable def Ls_law13_RecordRuns : List (Nat × List (Nat × LD)) := []
noncomputable def B_law13_RecordRuns : Bodies := []
theorem run_law13_RecordRuns (x : denL [(.list (.st .batch))]) : run [(8, c_law13_lives), (21, c_ref11_Start), (13, c_ref12_Next), (9, c_record_Of), (16, c_record_Write), (18, c_record_Read), (12, c_record_Play)] L_law13_RecordRuns Ls_law13_RecordRuns B_law13_RecordRuns Tryd.f7 [(.list (.st .batch))] [.bool] x = g_law13_RecordRuns x := by kernel_rfl
theorem ok_law13_RecordRuns : ConOK Tryd.prog 7 c_law13_RecordRuns := con_ok (ConsOK.cons ok_law13_lives (ConsOK.cons ok_ref11_Start (ConsOK.cons ok_ref12_Next (ConsOK.cons ok_record_Of (ConsOK.cons ok_record_Write (ConsOK.cons ok_record_Read (ConsOK.cons ok_record_Play (ConsOK.nil)))))))) L_law13_RecordRuns Ls_law13_RecordRuns (B := B_law13_RecordRuns) (BodiesOK.nil) Tryd.func7 rfl fun x y hf h => (run_law13_RecordRuns x).trans (eq_law13_RecordRuns x y hf h)
end Go.Proofs.YtmjobjaajnjgjaaDoor
end
