/-
  Sets of slots, who may move: the reference's functions answer what they are to answer.
  Own text, for the claims about coterie. No program in sight.
-/
import Derived.Test.YtghmcodjbkmlnaaN12G
import Derived.Test.YtghmcodjbkmlnaaN11R
namespace Go.Co.N
open Go Go.Co

/-! ### Loops over lists -/
section
variable {X Z A α : Type} [Inhabited α] {f : X → Option (X ⊕ Z)}
def foldE (step : A → α → A ⊕ Z) (fin : A → Z) : List α → A → Z
  | [], a => fin a
  | x :: xs, a => match step a x with
    | .inl a' => foldE step fin xs a'
    | .inr z => z
theorem lat_drop {xs : List α} {i : Nat} {x : α} {r : List α} (h : xs.drop i = x :: r) : i < xs.length ∧ lat xs (i : Int) = x ∧ xs.drop (i + 1) = r := by
  have hl : i < xs.length := by
    have := congrArg List.length h
    simp at this; omega
  refine ⟨hl, ?_, ?_⟩
  · rw [lat_nat xs i hl]
    have := List.drop_eq_getElem_cons hl
    rw [this] at h; cases h; rfl
  · have := List.drop_eq_getElem_cons hl
    rw [this] at h; cases h; rfl
theorem lfp_list (xs : List α) (S : Nat → A → X) (step : A → α → A ⊕ Z) (Inv : Nat → List α → A → Prop) (fin : A → Z)
    (h1 : ∀ i x r a, xs.drop i = x :: r → i < xs.length → lat xs (i : Int) = x → Inv i (x :: r) a → (∀ a', step a x = .inl a' → Inv (i + 1) r a') ∧ f (S i a) = some (match step a x with | .inl a' => .inl (S (i + 1) a') | .inr z => .inr z))
    (h2 : ∀ a, Inv xs.length [] a → f (S xs.length a) = some (.inr (fin a))) :
    ∀ (todo : List α) (i : Nat) (a : A), xs.drop i = todo → i ≤ xs.length → Inv i todo a → lfp f (S i a) = some (foldE step fin todo a) := by
  intro todo
  induction todo with
  | nil =>
    intro i a hd hle ha
    have : i = xs.length := by
      have := congrArg List.length hd
      simp at this; omega
    subst this
    exact lfp_inr (h2 a ha)
  | cons x r ih =>
    intro i a hd hle ha
    obtain ⟨hl, hx, hr⟩ := lat_drop hd
    obtain ⟨k1, k2⟩ := h1 i x r a hd hl hx ha
    simp only [foldE]
    cases hs : step a x with
    | inl a' =>
      rw [hs] at k2
      rw [lfp_inl k2]
      exact ih (i + 1) a' hr (by omega) (k1 a' hs)
    | inr z => rw [hs] at k2; exact lfp_inr k2
end

/-! ### Sets of slots -/
theorem eq_ref08_Places : Eqs c_ref08_Places g_ref08_Places := Eqs.tot fun (s, _) hf => by
  change Int at s
  have hs : 0 ≤ s ∧ s ≤ 18446744073709551615 := fine_u64.1 hf.1
  simp only [g_ref08_Places]
  have hle : ∀ i : Nat, 0 ≤ s / 2 ^ i ∧ s / 2 ^ i ≤ 18446744073709551615 := fun i => ⟨Int.ediv_nonneg hs.1 (Int.pow_nonneg (by omega)), Int.le_trans (Int.ediv_le_self _ hs.1) hs.2⟩
  rw [lfp_run' (fun i => ((s / 2 ^ i, (), (), (i : Int), ()), ((Vector.replicate 64 false : Arr 64 Bool), fillTo false (bitI s) i, ()), ())) 64 (by rw [fill_0]; simp) fun i hi => by
    have h1 : (i : Int) < 64 := by omega
    have := hle i
    simp only [g_ref08_Places_r1, h1, decide_true, cond_true, Int.natCast_nonneg, Bool.and_self, wrap1 i (by omega)]
    rw [Int.tdiv_eq_ediv_of_nonneg this.1, Go.IntWalk.u64_in _ (by omega), Int.tmod_eq_emod_of_nonneg this.1, Int.ediv_ediv_of_nonneg (Int.pow_nonneg (by omega)), ← Int.pow_succ]
    rw [show decide (s / 2 ^ i % 2 = 1) = bitI s i from rfl, fill_put (n := 64) false (bitI s) i hi]]
  rw [lfp_inr (z := (((), (), ()), ((Vector.replicate 64 false : Arr 64 Bool), (Arr.make (bitI s) : Arr 64 Bool), ()), ())) (by simp [g_ref08_Places_r1, fill_n])]
  simp
theorem word_cons (q : Nat → Bool) : ∀ n, word q (n + 1) = (bif q 0 then 1 else 0) + 2 * word (fun j => q (j + 1)) n
  | 0 => by simp [word]
  | n + 1 => by
    have := word_cons q n
    show word q (n + 1) + (bif q (n + 1) then 2 ^ (n + 1) else 0) = _
    rw [this]
    simp only [word]
    cases q (n + 1) <;> simp [Nat.pow_succ] <;> omega
theorem word_congr {p q : Nat → Bool} : ∀ n, (∀ i, i < n → p i = q i) → word p n = word q n
  | 0, _ => rfl
  | n + 1, h => by simp only [word]; rw [word_congr n fun i hi => h i (by omega), h n (by omega)]
theorem eq_ref08_Word : Eqs c_ref08_Word g_ref08_Word := Eqs.tot fun (p, _) _ => by
  simp only [g_ref08_Word]
  rw [lfp_run' (fun i => (((), ((word (fun j => Arr.get (p : Arr 64 Bool) ((j + (64 - i) : Nat) : Int)) i : Nat) : Int), 63 - (i : Int), ()), (p, ()), ())) 64 (by rfl) fun i hi => by
    have h1 : 0 ≤ 63 - (i : Int) := by omega
    have hw : 63 - (i : Int) = ((63 - i : Nat) : Int) := by omega
    have hr : ((63 - i : Nat) : Int) < 64 := by omega
    have hw2 : IntKind.i64.wrap (((63 - i : Nat) : Int) - 1) = 63 - ((i + 1 : Nat) : Int) := by rw [i64_in _ (by omega)]; omega
    have hlt := word_lt (fun j => Arr.get (p : Arr 64 Bool) ((j + (64 - i) : Nat) : Int)) i
    have hlt2 : (2 : Nat) ^ i ≤ 2 ^ 63 := Nat.pow_le_pow_right (by omega) (by omega)
    have hcons := word_cons (fun j => Arr.get (p : Arr 64 Bool) ((j + (64 - (i + 1)) : Nat) : Int)) i
    have hco : word (fun j => Arr.get (p : Arr 64 Bool) ((j + 1 + (64 - (i + 1)) : Nat) : Int)) i = word (fun j => Arr.get (p : Arr 64 Bool) ((j + (64 - i) : Nat) : Int)) i := word_congr i fun j hj => by
      rw [show j + 1 + (64 - (i + 1)) = j + (64 - i) by omega]
    have h0 : 0 + (64 - (i + 1)) = 63 - i := by omega
    simp only [hco, h0] at hcons
    simp only [g_ref08_Word_r1, h1, hw, hw2, decide_true, cond_true, Int.natCast_nonneg, hr, Bool.and_self, hcons]
    generalize word (fun j => Arr.get (p : Arr 64 Bool) ((j + (64 - i) : Nat) : Int)) i = x at *
    have hx : x ≤ 9223372036854775807 := by omega
    rw [Go.IntWalk.u64_in ((x : Int) * 2) (by omega), Go.IntWalk.u64_in ((x : Int) * 2 + 1) (by omega)]
    cases Arr.get (p : Arr 64 Bool) ((63 - i : Nat) : Int) <;> simp <;> omega]
  rw [lfp_inr (z := ((((word (fun j => Arr.get (p : Arr 64 Bool) (j : Int)) 64 : Nat) : Int), ()), (), ())) (by simp [g_ref08_Word_r1])]
  rfl
theorem eq_ref08_List : Eqs c_ref08_List g_ref08_List := Eqs.tot fun (s, _) _ => by
  change Int at s
  simp only [g_ref08_List]
  rw [lfp_run' (fun i => (((), ((List.range i).filter (bitI s)).map (fun (i : Nat) => (i : Int)), (i : Int), ()), ((Arr.make (bitI s) : Arr 64 Bool), ()), ())) 64 (by rfl) fun i hi => by
    have h1 : (i : Int) < 64 := by omega
    have hlen : ((List.range i).filter (bitI s)).length ≤ i := by
      have := List.length_filter_le (bitI s) (List.range i)
      simpa using this
    have hg : Arr.get (Arr.make (bitI s) : Arr 64 Bool) (i : Int) = bitI s i := by rw [get_make _ _ (by omega) (by omega)]; simp
    have hb : (((List.range i).filter (bitI s)).length + 1) * 8 ≤ 140737488355328 := by omega
    simp only [g_ref08_List_r1, h1, decide_true, cond_true, Int.natCast_nonneg, Bool.and_self, hg, List.length_map, hb, wrap1 i (by omega), List.range_succ, List.filter_append, List.map_append]
    cases hbi : bitI s i with
    | true => simp [hbi]
    | false => simp [hbi]]
  rw [lfp_inr (z := ((listW s, ()), (), ())) (by simp [g_ref08_List_r1, listW])]
  simp
theorem eq_ref08_Count : Eqs c_ref08_Count g_ref08_Count := Eqs.tot fun (s, _) _ => by
  simp [g_ref08_Count, listW, cntW]
theorem eq_ref09_Taken : Eqs c_ref09_Taken g_ref09_Taken := Eqs.tot fun (r, _) _ => by
  simp only [g_ref09_Taken]
  rw [lfp_run' (fun i => (((), (), (i : Int), ()), (r, (fillTo false (isOn r) i : Arr 64 Bool), ()), ())) 64 (by rw [fill_0]; rfl) fun i hi => by
    have h1 : (i : Int) < 64 := by omega
    simp only [g_ref09_Taken_r1, h1, decide_true, cond_true, Int.natCast_nonneg, Bool.and_self, wrap1 i (by omega)]
    rw [show (!decide ((Arr.get r (i : Int)).Base = 0)) = isOn r i from rfl, fill_put (n := 64) false (isOn r) i hi]]
  rw [lfp_inr (z := (((), ()), ((Arr.make (isOn r) : Arr 64 Bool), ()), ())) (by simp [g_ref09_Taken_r1, fill_n])]
  simp only [Option.bind_some, taken]
  rw [word_congr 64 fun i hi => by
    show Arr.get (Arr.make (isOn r) : Arr 64 Bool) (i : Int) = isOn r i
    rw [get_make _ _ (by omega) (by omega)]; simp]
theorem eq_ref09_person : Eqs c_ref09_person g_ref09_person := Eqs.tot fun (r, seen, w, leaves, _) _ => by
  change Int at w
  simp only [g_ref09_person, personA]
  by_cases h1 : w < 0
  · have : ¬ 0 ≤ w := by omega
    simp [h1, this]
  by_cases h2 : 256 ≤ w
  · have : ¬ w < 256 := by omega
    simp [h1, h2, this]
  have h3 : 0 ≤ w := by omega
  have h4 : w < 256 := by omega
  simp only [h1, h2, h3, h4, decide_true, decide_false, Bool.and_self, cond_true, cond_false]
  cases Arr.get (seen : Arr 256 Bool) w <;> cases leaves <;> cases decide (0 ≤ findR r w) <;> rfl

/-! ### Who may move -/
def seenA (l : List Int) : Arr 256 Bool := Arr.make fun x => decide ((x : Int) ∈ l)
theorem seenA_get (l : List Int) {w : Int} (h0 : 0 ≤ w) (h1 : w < 256) : Arr.get (seenA l) w = decide (w ∈ l) := by
  rw [seenA, get_make _ _ h0 h1, Int.toNat_of_nonneg h0]
theorem seenA_put (l : List Int) {w : Int} (h0 : 0 ≤ w) (h1 : w < 256) : Arr.put (seenA l) w true = seenA (w :: l) := arr_ext fun i hi0 hi1 => by
  rw [get_put _ _ _ _ h0 h1 hi0, seenA_get _ hi0 hi1, seenA_get _ hi0 hi1]
  by_cases h : w = i
  · subst h; simp
  · have h' : ¬ i = w := fun e => h e.symm
    simp [h, h']
theorem seenA_congr {l m : List Int} (h : ∀ x, x ∈ l ↔ x ∈ m) : seenA l = seenA m := by
  unfold seenA
  congr 1
  funext x
  simp [h]
theorem seenA_nil : (Vector.replicate 256 false : Arr 256 Bool) = seenA [] := arr_ext fun i h0 h1 => by
  rw [get_rep _ _ h0 h1, seenA_get _ h0 h1]; simp
theorem personA_eq (r : Roster) (l : List Int) (w : Int) (leaves : Bool) : personA r (seenA l) w leaves = personE r l leaves w := by
  unfold personA personE
  by_cases h : 0 ≤ w ∧ w < 256
  · rw [seenA_get l h.1 h.2]
  · have : (decide (0 ≤ w) && decide (w < 256)) = false := by
      apply Bool.eq_false_iff.2; intro g; exact h (by simpa using g)
    rw [this]; simp only [cond_false]
theorem personE_0 {r : Roster} {l : List Int} {w : Int} {leaves : Bool} : personE r l leaves w = 0 ↔ 0 ≤ w ∧ w < 256 ∧ w ∉ l ∧ (0 ≤ findR r w ↔ leaves = true) := by
  unfold personE
  by_cases h1 : 0 ≤ w
  · by_cases h2 : w < 256
    · by_cases h3 : w ∈ l
      · simp [h1, h2, h3]
      · cases leaves <;> by_cases h4 : 0 ≤ findR r w <;> simp [h1, h2, h3, h4]
    · simp [h1, h2]
  · simp [h1]
/-- The seen behind a list that has no error. -/
def askSeen (l seen : List Int) : List Int := l.reverse ++ seen
theorem ask_fold {Z : Type} (r : Roster) (leaves : Bool) (fin : List Int → Z) (err : Int → Z) : ∀ (l seen : List Int),
    foldE (fun (a : List Int) w => bif decide (personE r a leaves w = 0) then Sum.inl (w :: a) else Sum.inr (err (personE r a leaves w))) fin l seen = bif decide (askL r leaves l seen = 0) then fin (askSeen l seen) else err (askL r leaves l seen)
  | [], seen => by simp [foldE, askL, askSeen]
  | w :: l, seen => by
    simp only [foldE, askL]
    by_cases h : personE r seen leaves w = 0
    · simp only [h, decide_true, cond_true]
      rw [ask_fold r leaves fin err l (w :: seen)]
      simp [askSeen]
    · simp only [h, decide_false, cond_false]
theorem askL_0 {r : Roster} {leaves : Bool} : ∀ {l seen : List Int}, askL r leaves l seen = 0 → (∀ w ∈ l, 0 ≤ w ∧ w < 256 ∧ w ∉ seen ∧ (0 ≤ findR r w ↔ leaves = true)) ∧ l.Nodup
  | [], _, _ => by simp
  | w :: l, seen, h => by
    simp only [askL] at h
    by_cases hp : personE r seen leaves w = 0
    · simp only [hp, decide_true, cond_true] at h
      obtain ⟨h1, h2⟩ := askL_0 h
      have hw := personE_0.1 hp
      refine ⟨fun x hx => ?_, ?_⟩
      · rcases List.mem_cons.1 hx with rfl | hx
        · exact hw
        · have := h1 x hx
          exact ⟨this.1, this.2.1, fun hn => this.2.2.1 (List.mem_cons_of_mem _ hn), this.2.2.2⟩
      · exact List.nodup_cons.2 ⟨fun hx => (h1 w hx).2.2.1 (List.mem_cons_self ..), h2⟩
    · simp only [hp, decide_false, cond_false] at h
theorem askL_iff {r : Roster} {leaves : Bool} : ∀ {l seen : List Int}, askL r leaves l seen = 0 ↔ (∀ w ∈ l, 0 ≤ w ∧ w < 256 ∧ w ∉ seen ∧ (0 ≤ findR r w ↔ leaves = true)) ∧ l.Nodup
  | [], _ => by simp [askL]
  | w :: l, seen => by
    refine ⟨askL_0, fun ⟨h1, h2⟩ => ?_⟩
    obtain ⟨h3, h4⟩ := List.nodup_cons.1 h2
    have hp : personE r seen leaves w = 0 := personE_0.2 (h1 w (List.mem_cons_self ..))
    simp only [askL, hp, decide_true, cond_true]
    refine askL_iff.2 ⟨fun x hx => ?_, h4⟩
    have := h1 x (List.mem_cons_of_mem _ hx)
    refine ⟨this.1, this.2.1, fun hn => ?_, this.2.2.2⟩
    rcases List.mem_cons.1 hn with rfl | hn
    · exact h3 hx
    · exact this.2.2.1 hn
theorem nodup_le : ∀ (n : Nat) (l : List Int), l.Nodup → (∀ x ∈ l, 0 ≤ x ∧ x < n) → l.length ≤ n
  | 0, l, _, h => by
    cases l with
    | nil => simp
    | cons a l => have := h a (List.mem_cons_self ..); omega
  | n + 1, l, hn, h => by
    by_cases hm : (n : Int) ∈ l
    · have h1 := List.length_erase_of_mem hm
      have h2 := nodup_le n (l.erase (n : Int)) (hn.erase _) fun x hx => by
        have hx' := (List.Nodup.mem_erase_iff hn).1 hx
        have := h x hx'.2
        have : x ≠ (n : Int) := hx'.1
        omega
      have : 0 < l.length := List.length_pos_of_mem hm
      omega
    · have := nodup_le n l hn fun x hx => by
        have h1 := h x hx
        have : x ≠ (n : Int) := fun e => hm (e ▸ hx)
        omega
      omega
theorem askL_len {r : Roster} {leaves : Bool} {l seen : List Int} (h : askL r leaves l seen = 0) : l.length ≤ 256 :=
  nodup_le 256 l (askL_0 h).2 fun x hx => ⟨((askL_0 h).1 x hx).1, ((askL_0 h).1 x hx).2.1⟩
theorem wrap1' {i n : Nat} (h : i < n) (hn : n ≤ 9223372036854775807) : IntKind.i64.wrap ((i : Int) + 1) = ((i + 1 : Nat) : Int) := by rw [i64_in _ (by omega)]; omega
theorem fine_li {l : List Int} (h : Fine (.list .i) l) : l.length * 8 ≤ 140737488355328 := (Fine.list.1 h).1
theorem fine_batch {b : Batch} : Fine (.st .batch) b ↔ Fine (.list .i) b.Leaves ∧ Fine (.list .i) b.Joins := by
  rw [Fine.st]
  show Fine (.prod (.list .i) (.prod (.list .i) .unit)) (b.Leaves, b.Joins, ()) ↔ _
  rw [Fine.prod, Fine.prod, Fine.unit]; simp
theorem cntW_le (s : Int) : 0 ≤ cntW s ∧ cntW s ≤ 64 := by
  unfold cntW
  have := List.length_filter_le (bitI s) (List.range 64)
  simp at this; omega
theorem eq_ref09_Fits : Eqs c_ref09_Fits g_ref09_Fits := Eqs.tot fun (r, b, _) hf => by
  change Batch at b
  have hb : Fine (.list .i) b.Leaves ∧ Fine (.list .i) b.Joins := fine_batch.1 hf.2.1
  have hL : b.Leaves.length * 8 ≤ 140737488355328 := fine_li hb.1
  have hJ : b.Joins.length * 8 ≤ 140737488355328 := fine_li hb.2
  simp only [g_ref09_Fits, fits, chkR_0]
  cases hg : goodRoster r with
  | false => simp
  | true =>
    simp only [decide_true, Bool.not_true, cond_false, cond_true]
    rw [seenA_nil]
    rw [show lfp g_ref09_Fits_r1 (((), (), (), b.Leaves, (b.Leaves.length : Int), 0, ()), (r, b, seenA [], ()), ()) = _ from
      lfp_list b.Leaves (fun i a => (((), (), (), b.Leaves, (b.Leaves.length : Int), (i : Int), ()), (r, b, seenA a, ()), ())) (fun a w => bif decide (personE r a true w = 0) then Sum.inl (w :: a) else Sum.inr (.inl ((personE r a true w, ()), (), ()))) (fun _ _ _ => True) (fun a => .inr (((), (), (), ()), (r, b, seenA a, ()), ()))
        (fun i x rest a _ hi hx _ => by
          refine ⟨fun _ _ => trivial, ?_⟩
          have h1 : (i : Int) < (b.Leaves.length : Int) := by omega
          simp only [g_ref09_Fits_r1, h1, decide_true, cond_true, Int.natCast_nonneg, Bool.and_self, hx, personA_eq]
          by_cases hp : personE r a true x = 0
          · have hw := personE_0.1 hp
            simp only [hp, decide_true, Bool.not_true, cond_false, cond_true, hw.1, hw.2.1, Bool.and_self, seenA_put a hw.1 hw.2.1, wrap1' hi (by omega)]
          · simp only [hp, decide_false, Bool.not_false, cond_true, cond_false])
        (fun a _ => by simp [g_ref09_Fits_r1]) b.Leaves 0 [] rfl (by omega) trivial]
    rw [ask_fold r true _ (fun e => Sum.inl ((e, ()), (), ()))]
    simp only [Option.bind_some]
    by_cases h1 : askL r true b.Leaves [] = 0
    case neg => simp [h1]
    simp only [h1, decide_true, cond_true, Sum.elim_inr]
    rw [show seenA (askSeen b.Leaves []) = seenA b.Leaves from seenA_congr fun x => by simp [askSeen]]
    have hsn : askL r false b.Joins b.Leaves = askL r false b.Joins b.Leaves := rfl
    rw [show lfp g_ref09_Fits_r2 (((), (), (), b.Joins, (b.Joins.length : Int), 0, ()), (r, b, seenA b.Leaves, ()), ()) = _ from
      lfp_list b.Joins (fun i a => (((), (), (), b.Joins, (b.Joins.length : Int), (i : Int), ()), (r, b, seenA a, ()), ())) (fun a w => bif decide (personE r a false w = 0) then Sum.inl (w :: a) else Sum.inr (.inl ((personE r a false w, ()), (), ()))) (fun _ _ _ => True) (fun a => .inr (((), (), ()), (r, b, ()), ()))
        (fun i x rest a _ hi hx _ => by
          refine ⟨fun _ _ => trivial, ?_⟩
          have h1 : (i : Int) < (b.Joins.length : Int) := by omega
          simp only [g_ref09_Fits_r2, h1, decide_true, cond_true, Int.natCast_nonneg, Bool.and_self, hx, personA_eq]
          by_cases hp : personE r a false x = 0
          · have hw := personE_0.1 hp
            simp only [hp, decide_true, Bool.not_true, cond_false, cond_true, hw.1, hw.2.1, Bool.and_self, seenA_put a hw.1 hw.2.1, wrap1' hi (by omega)]
          · simp only [hp, decide_false, Bool.not_false, cond_true, cond_false])
        (fun a _ => by simp [g_ref09_Fits_r2]) b.Joins 0 b.Leaves rfl (by omega) trivial]
    rw [ask_fold r false _ (fun e => Sum.inl ((e, ()), (), ()))]
    simp only [Option.bind_some]
    by_cases h2 : askL r false b.Joins b.Leaves = 0
    case neg => simp [h2]
    simp only [h2, decide_true, cond_true, Sum.elim_inr]
    have hc := cntW_le (taken r)
    have hl := askL_len h1
    have hj := askL_len h2
    rw [i64_in (64 - cntW (taken r)) (by omega), i64_in _ (by omega)]
    by_cases h3 : (b.Joins.length : Int) ≤ 64 - cntW (taken r) + b.Leaves.length
    · have : ¬ 64 - cntW (taken r) + (b.Leaves.length : Int) < b.Joins.length := by omega
      simp [h3, this]
    · have : 64 - cntW (taken r) + (b.Leaves.length : Int) < b.Joins.length := by omega
      simp [h3, this]
theorem fits_ok {r : Roster} {b : Batch} (h : fits r b = 0) : goodRoster r = true ∧ askL r true b.Leaves [] = 0 ∧ askL r false b.Joins b.Leaves = 0 ∧ (b.Joins.length : Int) ≤ 64 - cntW (taken r) + b.Leaves.length := by
  unfold fits at h
  cases hg : goodRoster r with
  | false => rw [hg] at h; simp at h
  | true =>
    rw [hg] at h
    by_cases h1 : askL r true b.Leaves [] = 0
    · by_cases h2 : askL r false b.Joins b.Leaves = 0
      · by_cases h3 : (b.Joins.length : Int) ≤ 64 - cntW (taken r) + b.Leaves.length
        · exact ⟨rfl, h1, h2, h3⟩
        · simp [h1, h2, h3] at h
      · simp [h1, h2] at h
    · simp [h1] at h
end Go.Co.N
