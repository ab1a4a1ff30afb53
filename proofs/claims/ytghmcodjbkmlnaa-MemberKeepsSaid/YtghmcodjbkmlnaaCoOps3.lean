/-
  Comparisons, arithmetic, conversions, slices, maps' entries, lengths, literals: what the model's run of them gives.
  Own text, for the claims about coterie.
-/
import Derived.Test.YtghmcodjbkmlnaaCoOps2
namespace Go.Co
open Go.RowKit

/-! ### Equality of plain data -/
section
variable {P : Program} {T : Tab} (hT : TabOK P T)
include hT
theorem eqFields_ok {w w' : World} {im : Nat → Prop} {D : Nat} (ih : ∀ (t : Ty) (tid : Nat) (x y : t.den) (c d : List Value), t.wt ≤ D → T.get tid = some (.ty t) → t.lists = false → Rd w im t x c → Rd w im t y d →
      ∃ b, (Op.equalIn D tid (pk t.agg c) (pk t.agg d)).run P w' = .ok b w' ∧ (b = true ↔ x = y)) :
    ∀ (l : List Field) (b : Ty) (o : Nat) (x y : b.den) (pre pre' c d : List Value), fldsOK T l o b → b.lists = false → b.wt ≤ D → pre.length = o → pre'.length = o → Rd w im b x c → Rd w im b y d →
      ∃ r, (Op.eqFields D (pre ++ c).toArray (pre' ++ d).toArray l).run P w' = .ok r w' ∧ (r = true ↔ x = y) := by
  intro l
  induction l with
  | nil =>
    intro b o x y pre pre' c d hf _ _ _ _ _ _
    cases b <;> simp only [fldsOK] at hf
    exact ⟨true, by simp [Op.eqFields], by simp⟩
  | cons f l ihl =>
    intro b o x y pre pre' c d hf hl hw hp hp' hx hy
    cases b <;> simp only [fldsOK] at hf
    rename_i a b
    obtain ⟨h1, h2, h3, _, h5⟩ := hf
    simp [Ty.lists] at hl
    simp only [Ty.wt] at hw
    rw [Rd.prod] at hx hy
    obtain ⟨c1, c2, rfl, hx1, hx2⟩ := hx
    obtain ⟨d1, d2, rfl, hy1, hy2⟩ := hy
    have pa : (part f.type (pre ++ (c1 ++ c2)).toArray f.offset).run P w' = .ok (pk a.agg c1) w' := by
      have := run_part hT h2 w' (cs := pre ++ (c1 ++ c2)) (c := pre) (d := c1) (e := c2) (by simp) (Rd.len _ _ _ hx1) (fun hg => hx1.single hg)
      rw [hp, ← h1] at this; exact this
    have pb : (part f.type (pre' ++ (d1 ++ d2)).toArray f.offset).run P w' = .ok (pk a.agg d1) w' := by
      have := run_part hT h2 w' (cs := pre' ++ (d1 ++ d2)) (c := pre') (d := d1) (e := d2) (by simp) (Rd.len _ _ _ hy1) (fun hg => hy1.single hg)
      rw [hp', ← h1] at this; exact this
    obtain ⟨r1, hr1, hq1⟩ := ih a f.type x.1 y.1 c1 d1 (by omega) h2 hl.1 hx1 hy1
    obtain ⟨r2, hr2, hq2⟩ := ihl b (o + a.size) x.2 y.2 (pre ++ c1) (pre' ++ d1) c2 d2 h5 hl.2 (by omega) (by simp [hp, Rd.len _ _ _ hx1]) (by simp [hp', Rd.len _ _ _ hy1]) hx2 hy2
    rw [List.append_assoc, List.append_assoc] at hr2
    cases r1 with
    | false =>
      refine ⟨false, by simp [Op.eqFields, h3, pa, pb, hr1], ?_⟩
      simp at hq1
      simp only [Bool.false_eq_true, false_iff]
      intro e; rw [e] at hq1; exact hq1 rfl
    | true =>
      refine ⟨r2, by simp only [Op.eqFields, h3, ne_eq, not_false_iff, if_true, Sem.run_bind, pa, pb, hr1, Result.andThen_ok, Bool.not_true, Bool.false_eq_true, if_false, hr2], ?_⟩
      have e1 := hq1.1 rfl
      rw [hq2]
      constructor
      · intro e2; exact Prod.ext e1 e2
      · intro e; rw [e]
theorem equalIn_ok {w w' : World} {im : Nat → Prop} : ∀ (D : Nat) (t : Ty) (tid : Nat) (x y : t.den) (c d : List Value), t.wt ≤ D → T.get tid = some (.ty t) → t.lists = false → Rd w im t x c → Rd w im t y d →
    ∃ b, (Op.equalIn D tid (pk t.agg c) (pk t.agg d)).run P w' = .ok b w' ∧ (b = true ↔ x = y) := by
  intro D
  induction D with
  | zero =>
    intro t tid x y c d hw
    have : 0 < t.wt := by cases t with | st s => have := St.wt_body s; simp only [Ty.wt]; omega | _ => simp [Ty.wt]
    omega
  | succ D ih =>
    intro t tid x y c d hw he hl hx hy
    cases t with
    | int k =>
      obtain ⟨rfl, _⟩ := Rd.int.1 hx
      obtain ⟨rfl, _⟩ := Rd.int.1 hy
      refine ⟨(show Int from x) == (show Int from y), ?_, by simp⟩
      exact run_equalIn_int w' D tid k k x y (hT tid _ he).1
    | bool =>
      have h1 := Rd.bool.1 hx; have h2 := Rd.bool.1 hy; subst h1; subst h2
      refine ⟨(show Bool from x) == (show Bool from y), ?_, by simp⟩
      exact run_equalIn_bool' w' D tid x y (hT tid _ he).1
    | str =>
      obtain ⟨rfl, _⟩ := Rd.str.1 hx
      obtain ⟨rfl, _⟩ := Rd.str.1 hy
      refine ⟨(show ByteArray from x).toList == (show ByteArray from y).toList, run_equalIn_string w' D tid x y (hT tid _ he).1, ?_⟩
      rw [beq_iff_eq, ByteArray.toList_eq, ByteArray.toList_eq]
      constructor
      · intro h; exact ByteArray.ext (Array.toList_inj.1 h)
      · intro h; rw [h]
    | unit => exact (hT tid _ he).1.elim
    | prod a b => exact (hT tid _ he).1.elim
    | list t => simp [Ty.lists] at hl
    | st s =>
      obtain ⟨fs, hu, hf, hst⟩ := (hT tid _ he).1
      have hx' := Rd.st.1 hx
      have hy' := Rd.st.1 hy
      have hbl : s.body.lists = false := by cases s <;> simp_all [Ty.lists, St.body]
      have hbw : s.body.wt ≤ D := by have := St.wt_body s; simp only [Ty.wt] at hw; omega
      obtain ⟨r, hr, hq⟩ := eqFields_ok hT (fun t tid x y c d h => ih t tid x y c d h) fs.toList s.body 0 (s.unpack x) (s.unpack y) [] [] c d hf hbl hbw rfl rfl hx' hy'
      refine ⟨r, ?_, ?_⟩
      · have e : P.fieldsOf tid = fs := by simp [Program.fieldsOf, hu]
        have := run_equalIn_struct (P := P) w' D tid c.toArray d.toArray (by rw [e]; exact hu) hst
        rw [e] at this
        show (Op.equalIn (D + 1) tid (.agg c.toArray) (.agg d.toArray)).run P w' = _
        rw [this]; simpa using hr
      · rw [hq]
        constructor
        · intro h; rw [← St.pack_unpack s x, ← St.pack_unpack s y, h]
        · intro h; rw [h]
    | arr n t =>
      obtain ⟨eid, hu, heid⟩ := (hT tid _ he).1
      obtain ⟨cs, rfl, hcs⟩ := Rd.arr.1 hx
      obtain ⟨ds, rfl, hds⟩ := Rd.arr.1 hy
      simp [Ty.lists] at hl
      simp only [Ty.wt] at hw
      have hn : (Vector.toList x).length = n := by simp
      have hn' : (Vector.toList y).length = n := by simp
      have hstep : ∀ i, i < n → ∃ b, (Op.equalIn D eid (pk t.agg (cs.getD i [])) (pk t.agg (ds.getD i []))).run P w' = .ok b w' ∧ (b = true ↔ (Vector.toList x)[i]? = (Vector.toList y)[i]?) ∧
          (part eid cs.flatten.toArray (i * t.size)).run P w' = .ok (pk t.agg (cs.getD i [])) w' ∧ (part eid ds.flatten.toArray (i * t.size)).run P w' = .ok (pk t.agg (ds.getD i [])) w' := by
        intro i hi
        obtain ⟨c, hc, hcd⟩ := hcs.get i _ (List.getElem?_eq_getElem (by rw [hn]; exact hi))
        obtain ⟨d, hd, hdd⟩ := hds.get i _ (List.getElem?_eq_getElem (by rw [hn']; exact hi))
        have ec : cs.getD i [] = c := by simp [List.getD, hc]
        have ed : ds.getD i [] = d := by simp [List.getD, hd]
        obtain ⟨b, hb, hq⟩ := ih t eid _ _ c d (by omega) heid hl hcd hdd
        have l1 : (cs.flatten.take (i * t.size)).length = i * t.size := by
          rw [List.length_take, flatten_len hcs.lens, ← hcs.length, hn]
          exact Nat.min_eq_left (Nat.mul_le_mul_right _ (by omega))
        have l2 : (ds.flatten.take (i * t.size)).length = i * t.size := by
          rw [List.length_take, flatten_len hds.lens, ← hds.length, hn']
          exact Nat.min_eq_left (Nat.mul_le_mul_right _ (by omega))
        have p1 := run_part hT heid w' (flatten_at hcs.lens hc) (Rd.len _ _ _ hcd) (fun hg => hcd.single hg)
        have p2 := run_part hT heid w' (flatten_at hds.lens hd) (Rd.len _ _ _ hdd) (fun hg => hdd.single hg)
        rw [l1] at p1
        rw [l2] at p2
        refine ⟨b, by rw [ec, ed]; exact hb, ?_, by rw [ec]; exact p1, by rw [ed]; exact p2⟩
        rw [hq, List.getElem?_eq_getElem (by rw [hn]; exact hi), List.getElem?_eq_getElem (by rw [hn']; exact hi), Option.some.injEq]
      have hz : (sizeOf eid).run P w' = .ok t.size w' := run_sizeOf' hT heid w'
      have key : ∀ (k i : Nat), i + k = n → ∃ o : Option Bool, (forIn (List.range' i k 1) ((none : Option Bool), ()) fun i __s => do
            let __do_lift ← part eid cs.flatten.toArray (i * t.size)
            let __do_lift_1 ← part eid ds.flatten.toArray (i * t.size)
            let __do_lift ← Op.equalIn D eid __do_lift __do_lift_1
            if (!__do_lift) = true then pure (ForInStep.done (some false, ())) else pure (ForInStep.yield (none, ())) : Sem (Option Bool × Unit)).run P w' = .ok (o, ()) w' ∧
          ((o = none ∧ ∀ j, i ≤ j → j < n → (Vector.toList x)[j]? = (Vector.toList y)[j]?) ∨ (o = some false ∧ ¬ ∀ j, i ≤ j → j < n → (Vector.toList x)[j]? = (Vector.toList y)[j]?)) := by
        intro k
        induction k with
        | zero =>
          intro i hi
          exact ⟨none, by simp, .inl ⟨rfl, fun j h1 h2 => by omega⟩⟩
        | succ k ihk =>
          intro i hi
          obtain ⟨b1, hb1, hq1, p1, p2⟩ := hstep i (by omega)
          obtain ⟨o, hb2, hq2⟩ := ihk (i + 1) (by omega)
          rw [List.range'_succ]
          simp only [List.forIn_cons, Sem.run_bind, p1, p2, hb1, Result.andThen_ok]
          cases b1 with
          | false =>
            refine ⟨some false, by simp, .inr ⟨rfl, fun h => ?_⟩⟩
            exact absurd (hq1.2 (h i (Nat.le_refl _) (by omega))) (by simp)
          | true =>
            have e1 := hq1.1 rfl
            refine ⟨o, ?_, ?_⟩
            · simp only [Bool.not_true, Bool.false_eq_true, if_false, Sem.run_pure, Result.andThen_ok]
              exact hb2
            · rcases hq2 with ⟨h1, h2⟩ | ⟨h1, h2⟩
              · refine .inl ⟨h1, fun j h3 h4 => ?_⟩
                by_cases hj : j = i
                · subst hj; exact e1
                · exact h2 j (by omega) h4
              · exact .inr ⟨h1, fun h => h2 fun j h3 h4 => h j (by omega) h4⟩
      obtain ⟨o, hb, hq⟩ := key n 0 (by omega)
      have hall : (∀ j, 0 ≤ j → j < n → (Vector.toList x)[j]? = (Vector.toList y)[j]?) ↔ x = y := by
        constructor
        · intro h
          have : Vector.toList x = Vector.toList y := by
            apply List.ext_getElem?
            intro j
            by_cases hj : j < n
            · exact h j (Nat.zero_le _) hj
            · rw [List.getElem?_eq_none (by rw [hn]; omega), List.getElem?_eq_none (by rw [hn']; omega)]
          exact Vector.toList_inj.1 this
        · intro h; rw [h]; intros; rfl
      have e : ([:n].size : Nat) = n := by simp [Std.Legacy.Range.size]
      have e1 : ([:n].start : Nat) = 0 := rfl
      have e2 : ([:n].step : Nat) = 1 := rfl
      rcases hq with ⟨rfl, h⟩ | ⟨rfl, h⟩
      · refine ⟨true, ?_, by simpa using hall.1 h⟩
        show (Op.equalIn (D + 1) tid (.agg cs.flatten.toArray) (.agg ds.flatten.toArray)).run P w' = _
        simp only [Op.equalIn, Sem.run_bind, run_underlying hu, Result.andThen_ok, hz]
        rw [Std.Legacy.Range.forIn_eq_forIn_range', e, e1, e2, hb]
        rfl
      · refine ⟨false, ?_, by simpa using fun e => h (hall.2 e)⟩
        show (Op.equalIn (D + 1) tid (.agg cs.flatten.toArray) (.agg ds.flatten.toArray)).run P w' = _
        simp only [Op.equalIn, Sem.run_bind, run_underlying hu, Result.andThen_ok, hz]
        rw [Std.Legacy.Range.forIn_eq_forIn_range', e, e1, e2, hb]
        rfl
end
theorem beq_dec (a b : Int) : (a == b) = decide (a = b) := rfl
theorem wt_le (t : Ty) : ∀ s, t = .st s → t.wt ≤ 200 := by rintro s rfl; cases s <;> decide

/-! ### binOp -/
theorem bw_and (k : IntKind) (a b : Int) (w : World) (P : Program) : (Op.intBits .and k a b).run P w = .ok (.int k (bw .and k a b)) w := rfl
section
variable {P : Program} {T : Tab}
theorem intOp_ok {R : Type} {op : BinOp} {k l : IntKind} {a b : Int} {K : AV → Option R} {y : R} (h : intOp op k l a b K = some y) (ha : inKind k a = true) (hb : inKind l b = true) :
    ∃ v, K v = some y ∧ ∀ (E : Env) (t : TypeId) (ox oy : Operand), ∃ z, ((do eqGuard op t ox oy (.int k a) (.int l b); binOp op t (.int k a) (.int l b) : Sem Value)).run P E.w = .ok z E.w ∧ RV E v z := by
  unfold intOp at h
  have hb0 : l.signed = false → 0 ≤ b := by
    intro hs; rw [inKind_iff] at hb
    cases l <;> simp [IntKind.signed] at hs <;> simp [IntKind.min, IntKind.signed] at hb <;> omega
  cases op
  case shl =>
    simp only at h
    have hsh : 0 ≤ b → ∀ (E : Env) (t : TypeId) (ox oy : Operand), ((do eqGuard .shl t ox oy (.int k a) (.int l b); binOp .shl t (.int k a) (.int l b) : Sem Value)).run P E.w = .ok (.int k (shlI k a b)) E.w := by
      intro h0 E t ox oy
      have : ¬ b < 0 := by omega
      simp [eqGuard, binOp, Op.shift, this, shlI]
    split at h
    · obtain ⟨hc, h⟩ := guardK_some h
      exact ⟨_, h, fun E t ox oy => ⟨_, hsh (by simpa using hc) E t ox oy, RV.mkInt (inKind_wrap _ _)⟩⟩
    · rename_i hs
      exact ⟨_, h, fun E t ox oy => ⟨_, hsh (hb0 hs) E t ox oy, RV.mkInt (inKind_wrap _ _)⟩⟩
  case shr =>
    simp only at h
    have hsh : 0 ≤ b → ∀ (E : Env) (t : TypeId) (ox oy : Operand), ((do eqGuard .shr t ox oy (.int k a) (.int l b); binOp .shr t (.int k a) (.int l b) : Sem Value)).run P E.w = .ok (.int k (shrI k a b)) E.w := by
      intro h0 E t ox oy
      have : ¬ b < 0 := by omega
      simp [eqGuard, binOp, Op.shift, this, shrI]
    split at h
    · obtain ⟨hc, h⟩ := guardK_some h
      exact ⟨_, h, fun E t ox oy => ⟨_, hsh (by simpa using hc) E t ox oy, RV.mkInt (inKind_shr ha _)⟩⟩
    · rename_i hs
      exact ⟨_, h, fun E t ox oy => ⟨_, hsh (hb0 hs) E t ox oy, RV.mkInt (inKind_shr ha _)⟩⟩
  all_goals
    simp only at h
    split at h
    · cases h
    · rename_i hk
      have := IntKind.eq_of_eqb hk; subst this
      first
        | (obtain ⟨hc, h⟩ := guardK_some h
           have hne : b ≠ 0 := by simpa using hc
           refine ⟨_, h, fun E t ox oy => ⟨.int k (k.wrap (a.tdiv b)), ?_, RV.mkInt (inKind_wrap _ _)⟩⟩
           simp [eqGuard, binOp, Op.intDiv, hne])
        | (obtain ⟨hc, h⟩ := guardK_some h
           have hne : b ≠ 0 := by simpa using hc
           refine ⟨_, h, fun E t ox oy => ⟨.int k (a.tmod b), ?_, RV.mkInt (inKind_tmod ha)⟩⟩
           simp [eqGuard, binOp, Op.intDiv, hne])
        | exact ⟨_, h, fun E t ox oy => ⟨.int k (k.wrap (a + b)), by simp [eqGuard, binOp, Op.intArith], RV.mkInt (inKind_wrap _ _)⟩⟩
        | exact ⟨_, h, fun E t ox oy => ⟨.int k (k.wrap (a - b)), by simp [eqGuard, binOp, Op.intArith], RV.mkInt (inKind_wrap _ _)⟩⟩
        | exact ⟨_, h, fun E t ox oy => ⟨.int k (k.wrap (a * b)), by simp [eqGuard, binOp, Op.intArith], RV.mkInt (inKind_wrap _ _)⟩⟩
        | exact ⟨_, h, fun E t ox oy => ⟨.int k (bw .and k a b), by simp [eqGuard, binOp]; rfl, RV.mkInt (inKind_wrap _ _)⟩⟩
        | exact ⟨_, h, fun E t ox oy => ⟨.int k (bw .or k a b), by simp [eqGuard, binOp]; rfl, RV.mkInt (inKind_wrap _ _)⟩⟩
        | exact ⟨_, h, fun E t ox oy => ⟨.int k (bw .xor k a b), by simp [eqGuard, binOp]; rfl, RV.mkInt (inKind_wrap _ _)⟩⟩
        | exact ⟨_, h, fun E t ox oy => ⟨.int k (bw .andNot k a b), by simp [eqGuard, binOp]; rfl, RV.mkInt (inKind_wrap _ _)⟩⟩
        | exact ⟨_, h, fun E t ox oy => ⟨.bool (decide (a = b)), by simp [eqGuard, binOp, Op.intCmp, beq_dec], RV.mkBool⟩⟩
        | exact ⟨_, h, fun E t ox oy => ⟨.bool (!decide (a = b)), by simp [eqGuard, binOp, Op.intCmp, bne, beq_dec], RV.mkBool⟩⟩
        | exact ⟨_, h, fun E t ox oy => ⟨.bool (decide (a < b)), by simp [eqGuard, binOp, Op.intCmp], RV.mkBool⟩⟩
        | exact ⟨_, h, fun E t ox oy => ⟨.bool (decide (a ≤ b)), by simp [eqGuard, binOp, Op.intCmp], RV.mkBool⟩⟩
        | exact ⟨_, h, fun E t ox oy => ⟨.bool (decide (b < a)), by simp [eqGuard, binOp, Op.intCmp], RV.mkBool⟩⟩
        | exact ⟨_, h, fun E t ox oy => ⟨.bool (decide (b ≤ a)), by simp [eqGuard, binOp, Op.intCmp], RV.mkBool⟩⟩
        | cases h
end
end Go.Co
