/-
  Code: its evaluation told of a run.
  Own text, for the claims about coterie.
-/
import Derived.Test.YtghmcodjbkmlnaaCoDraw2
namespace Go.Co
open Go.RowKit

section
variable {P : Program} {C : Ctx} {E : EE} (hE : EOK P C E) {n : Nat}
include hE
theorem evOps_ok {ops : Array Oper} {R : Type} {y : R} {K : AS → Option R} : ∀ (rest : List Oper) (i : Nat) (s : AS), ops.toList.drop i = rest → evOps E n ops.toList rest s K = some y →
    ∃ s', K s' = some y ∧ s.nx ≤ s'.nx ∧ ∀ (U : Nat → Prop) (e : Env) (a : Act) (Q : Exit → Act → World → Prop), free U s.nx s'.nx → Fit C n U e s a → (∀ e' a', Fit C n (taken U s.nx s'.nx) e' s' a' → Ext e e' → Frm e s.mem e' s'.mem → Q .normal a' e'.w) → wpOps P ops Q (List.range' i rest.length) a e.w := by
  intro rest
  induction rest with
  | nil => intro i s _ h; exact ⟨s, h, Nat.le_refl _, fun U e a Q _ hf hq => hq e a (hf.widen fun _ h => .inl h) (Ext.refl _) (Frm.refl _ _)⟩
  | cons o rest ih =>
    intro i s hdrop h
    have hoi : ops[i]? = some o := by
      have : ops.toList[i]? = some o := by
        have := congrArg (·[0]?) hdrop
        simpa using this
      simpa using this
    have hdrop' : ops.toList.drop (i + 1) = rest := by
      have := congrArg (List.drop 1) hdrop
      simpa [Nat.add_comm] using this
    simp only [evOps] at h
    split at h
    · cases h
    · rename_i hd
      -- the operation, run
      have run1 : opF E (opv s.slots) o.op s.mem s.nx (fun v m nx => evOps E n ops.toList rest (putDst ⟨s.slots, m, nx⟩ o.dst v) K) = some y → ∃ s', K s' = some y ∧ s.nx ≤ s'.nx ∧
          ∀ (U : Nat → Prop) (e : Env) (a : Act) (Q : Exit → Act → World → Prop), Region.wanted o (yielded ops a.tmps) = true → free U s.nx s'.nx → Fit C n U e s a → (∀ e' a', Fit C n (taken U s.nx s'.nx) e' s' a' → Ext e e' → Frm e s.mem e' s'.mem → Q .normal a' e'.w) → wpOps P ops Q (List.range' i (o :: rest).length) a e.w := by
        intro h
        obtain ⟨v, m', nx', hle, hk, _, hr⟩ := opF_ok hE h
        obtain ⟨s', hk', hle', hrest⟩ := ih (i + 1) _ hdrop' hk
        rw [putDst_nx] at hle'
        refine ⟨s', hk', Nat.le_trans hle hle', fun U e a Q hw hu hf hq => ?_⟩
        simp only [List.length_cons, List.range'_succ, wpOps, hoi, hw, if_true]
        refine .inl (OpRun.wp (OpRun.mono (hr e a.eval U (fun x => opv_ok hf.slots x) hf.mem (free_left hu hle')) ?_))
        rintro z w' ⟨e', rfl, hx, hm, hfr, hv⟩
        have hf' := hf.put (nx' := nx') hd hx hm hv
        have hfree : free (taken U s.nx nx') (putDst ⟨s.slots, m', nx'⟩ o.dst v).nx s'.nx := by rw [putDst_nx]; exact free_right hu hle
        refine hrest _ e' _ Q hfree hf' fun e2 a2 g1 g2 g3 => hq e2 a2 (g1.widen fun b hb => ?_) (hx.trans g2) (hfr.trans ?_)
        · rw [putDst_nx] at hb; exact (taken_taken hle hle').1 hb
        · rw [putDst_mem] at g3; exact g3
      have skip1 : evOps E n ops.toList rest (putDst s o.dst .nil) K = some y → ∃ s', K s' = some y ∧ s.nx ≤ s'.nx ∧
          ∀ (U : Nat → Prop) (e : Env) (a : Act) (Q : Exit → Act → World → Prop), Region.wanted o (yielded ops a.tmps) = false → free U s.nx s'.nx → Fit C n U e s a → (∀ e' a', Fit C n (taken U s.nx s'.nx) e' s' a' → Ext e e' → Frm e s.mem e' s'.mem → Q .normal a' e'.w) → wpOps P ops Q (List.range' i (o :: rest).length) a e.w := by
        intro h
        obtain ⟨s', hk', hle', hrest⟩ := ih (i + 1) _ hdrop' h
        rw [putDst_nx] at hle'
        refine ⟨s', hk', hle', fun U e a Q hw hu hf hq => ?_⟩
        simp only [List.length_cons, List.range'_succ, wpOps, hoi, hw, Bool.false_eq_true, if_false]
        have hf' := hf.put (nx' := s.nx) hd (Ext.refl _) hf.mem (v := .nil) (z := undef) (RV.skip e)
        refine hrest U e _ Q (by rw [putDst_nx]; exact hu) hf' fun e2 a2 g1 g2 g3 => hq e2 a2 (g1.widen fun b hb => ?_) g2 (by rw [putDst_mem] at g3; exact g3)
        rw [putDst_nx] at hb; exact hb
      split at h
      · rename_i hg
        obtain ⟨s', h1, h2, h3⟩ := run1 h
        exact ⟨s', h1, h2, fun U e a Q hu hf hq => h3 U e a Q (by simp [Region.wanted, hg]) hu hf hq⟩
      · rename_i j want hg
        split at h
        · cases h
        · rename_i d hdst
          split at h
          · rename_i b hb
            have hy : ∀ (U : Nat → Prop) (e : Env) (a : Act), Fit C n U e s a → yielded ops a.tmps j = some b := fun U e a hf => yielded_of hdst (by
              have := hf.slots d
              rw [hb] at this
              exact this.bool)
            split at h
            · cases b with
              | true =>
                rw [know_eq hb] at h
                obtain ⟨s', h1, h2, h3⟩ := run1 h
                exact ⟨s', h1, h2, fun U e a Q hu hf hq => h3 U e a Q (by simp [Region.wanted, hg, hy U e a hf]) hu hf hq⟩
              | false =>
                rw [know_eq hb] at h
                obtain ⟨s', h1, h2, h3⟩ := skip1 h
                exact ⟨s', h1, h2, fun U e a Q hu hf hq => h3 U e a Q (by simp [Region.wanted, hg, hy U e a hf]) hu hf hq⟩
            · cases b with
              | true =>
                rw [know_eq hb] at h
                obtain ⟨s', h1, h2, h3⟩ := skip1 h
                exact ⟨s', h1, h2, fun U e a Q hu hf hq => h3 U e a Q (by simp [Region.wanted, hg, hy U e a hf]) hu hf hq⟩
              | false =>
                rw [know_eq hb] at h
                obtain ⟨s', h1, h2, h3⟩ := run1 h
                exact ⟨s', h1, h2, fun U e a Q hu hf hq => h3 U e a Q (by simp [Region.wanted, hg, hy U e a hf]) hu hf hq⟩
          · rename_i hb
            obtain ⟨s', h1, h2, h3⟩ := skip1 h
            exact ⟨s', h1, h2, fun U e a Q hu hf hq => h3 U e a Q (by
              have := hf.slots d
              rw [hb] at this
              simp [Region.wanted, hg, yielded_nil hdst this.nil]) hu hf hq⟩
          · cases h
end

/-! ### Code -/
def AExit.toExit : AExit → Exit
  | .normal => .normal
  | .exit id => .exit id
  | .ret => .ret
/-- From the one state the code comes to the other. -/
def Tri (P : Program) (C : Ctx) (n : Nat) (c : Code) (s : AS) (r : AExit) (s' : AS) : Prop :=
  s.nx ≤ s'.nx ∧ ∀ (U : Nat → Prop) (e : Env) (a : Act) (Q : Exit → Act → World → Prop), free U s.nx s'.nx → Fit C n U e s a → (∀ e' a', Fit C n (taken U s.nx s'.nx) e' s' a' → Ext e e' → Frm e s.mem e' s'.mem → Q r.toExit a' e'.w) → c.wp P Q a e.w
def EvOK (P : Program) (C : Ctx) (n : Nat) (c : Code) (ev : (R : Type) → AS → (AExit → AS → Option R) → Option R) : Prop :=
  ∀ R s K y, ev R s K = some y → ∃ r s', Tri P C n c s r s' ∧ K r s' = some y
def LpOK (P : Program) (C : Ctx) (n : Nat) (E : EE) : Prop := ∀ body, EvOK P C n body (evC E n body) → EvOK P C n (.loop body) (E.lp (firstReg body) (evC E n body))
theorem Tri.seq {P : Program} {C : Ctx} {n : Nat} {x y : Code} {s s1 s2 : AS} {r : AExit} (h1 : Tri P C n x s .normal s1) (h2 : Tri P C n y s1 r s2) : Tri P C n (.seq x y) s r s2 := by
  refine ⟨Nat.le_trans h1.1 h2.1, fun U e a Q hu hf hq => wp_seq (h1.2 U e a _ (free_left hu h2.1) hf fun e1 a1 g1 g2 g3 => ?_)⟩
  exact h2.2 _ e1 a1 Q (free_right hu h1.1) g1 fun e2 a2 k1 k2 k3 => hq e2 a2 (k1.widen fun b hb => (taken_taken h1.1 h2.1).1 hb) (g2.trans k2) (g3.trans k3)
theorem Tri.seqOut {P : Program} {C : Ctx} {n : Nat} {x y : Code} {s s1 : AS} {r : AExit} (h1 : Tri P C n x s r s1) (hr : r ≠ .normal) : Tri P C n (.seq x y) s r s1 := by
  refine ⟨h1.1, fun U e a Q hu hf hq => wp_seq (h1.2 U e a _ hu hf fun e1 a1 g1 g2 g3 => ?_)⟩
  have := hq e1 a1 g1 g2 g3
  cases r with
  | normal => exact absurd rfl hr
  | exit id => exact this
  | ret => exact this

section
variable {P : Program} {C : Ctx} {E : EE} (hE : EOK P C E) {n : Nat} (hdraw : P.follows .mixedOrders = true) (hlp : LpOK P C n E)
include hE hdraw hlp
theorem evC_ok : ∀ c : Code, EvOK P C n c (evC E n c) := by
  intro c
  induction c with
  | skip => intro R s K y h; exact ⟨.normal, s, ⟨Nat.le_refl _, fun U e a Q _ hf hq => wp_skip (hq e a (hf.widen fun _ h => .inl h) (Ext.refl _) (Frm.refl _ _))⟩, h⟩
  | region id ops draw =>
    intro R s K y h
    simp only [evC] at h
    split at h
    · obtain ⟨s', hk, hle, hr⟩ := evOps_ok hE ops.toList 0 s rfl h
      refine ⟨.normal, s', ⟨hle, fun U e a Q hu hf hq => ?_⟩, hk⟩
      refine wp_region ?_
      have := hr U e a Q hu hf hq
      rw [List.range_eq_range']
      simpa using this
    · obtain ⟨xs, s', h1, h2⟩ := evDraw_ok hE (n := n) (ops := ops) _ _ _ h
      simp only [List.nil_append] at h2
      split at h2
      · rename_i hfine
        refine ⟨.normal, s', ⟨(chain_at _ _ _ _ h1).2.2.2.2.1, fun U e a Q hu hf hq => draw_ok hdraw h1 hfine hu hf hq⟩, h2⟩
      · cases h2
  | seq a b iha ihb =>
    intro R s K y h
    simp only [evC] at h
    obtain ⟨r, s1, h1, h2⟩ := iha _ _ _ _ h
    cases r with
    | normal =>
      obtain ⟨r2, s2, h3, h4⟩ := ihb _ _ _ _ h2
      exact ⟨r2, s2, h1.seq h3, h4⟩
    | exit id => exact ⟨_, s1, h1.seqOut (by simp), h2⟩
    | ret => exact ⟨_, s1, h1.seqOut (by simp), h2⟩
  | cond c x z ihx ihz =>
    intro R s K y h
    simp only [evC] at h
    split at h
    · rename_i b hb
      have hc : ∀ (U : Nat → Prop) (e : Env) (a : Act), Fit C n U e s a → a.eval c = .bool b := fun U e a hf => by
        have := opv_ok hf.slots c
        rw [hb] at this
        exact this.bool
      have hkn : knowO s c b = s := by
        cases c with
        | tmp t => exact know_eq hb
        | _ => rfl
      cases b with
      | true =>
        rw [hkn] at h
        obtain ⟨r, s1, h1, h2⟩ := ihx _ _ _ _ h
        exact ⟨r, s1, ⟨h1.1, fun U e a Q hu hf hq => wp_cond_true (hc U e a hf) (h1.2 U e a Q hu hf hq)⟩, h2⟩
      | false =>
        rw [hkn] at h
        obtain ⟨r, s1, h1, h2⟩ := ihz _ _ _ _ h
        exact ⟨r, s1, ⟨h1.1, fun U e a Q hu hf hq => wp_cond_false (hc U e a hf) (h1.2 U e a Q hu hf hq)⟩, h2⟩
    · cases h
  | block id body ih =>
    intro R s K y h
    simp only [evC] at h
    obtain ⟨r, s1, h1, h2⟩ := ih _ _ _ _ h
    cases r with
    | normal => exact ⟨.normal, s1, ⟨h1.1, fun U e a Q hu hf hq => wp_block (h1.2 U e a _ hu hf fun e1 a1 g1 g2 g3 => hq e1 a1 g1 g2 g3)⟩, h2⟩
    | ret => exact ⟨.ret, s1, ⟨h1.1, fun U e a Q hu hf hq => wp_block (h1.2 U e a _ hu hf fun e1 a1 g1 g2 g3 => hq e1 a1 g1 g2 g3)⟩, h2⟩
    | exit j =>
      simp only at h2
      cases hj : Nat.beq j id with
      | true =>
        rw [hj] at h2
        have := Nat.eq_of_beq_eq_true hj; subst this
        exact ⟨.normal, s1, ⟨h1.1, fun U e a Q hu hf hq => wp_block (h1.2 U e a _ hu hf fun e1 a1 g1 g2 g3 => by
          have := hq e1 a1 g1 g2 g3
          simpa [AExit.toExit, Exit.inBlock] using this)⟩, h2⟩
      | false =>
        rw [hj] at h2
        have hne : j ≠ id := by rintro rfl; simp at hj
        exact ⟨.exit j, s1, ⟨h1.1, fun U e a Q hu hf hq => wp_block (h1.2 U e a _ hu hf fun e1 a1 g1 g2 g3 => by
          have := hq e1 a1 g1 g2 g3
          simpa [AExit.toExit, Exit.inBlock, hne] using this)⟩, h2⟩
  | loop body ih =>
    intro R s K y h
    simp only [evC] at h
    exact hlp body ih R s K y h
  | exit id => intro R s K y h; exact ⟨.exit id, s, ⟨Nat.le_refl _, fun U e a Q _ hf hq => wp_exit (hq e a (hf.widen fun _ h => .inl h) (Ext.refl _) (Frm.refl _ _))⟩, h⟩
  | ret => intro R s K y h; exact ⟨.ret, s, ⟨Nat.le_refl _, fun U e a Q _ hf hq => wp_ret (hq e a (hf.widen fun _ h => .inl h) (Ext.refl _) (Frm.refl _ _))⟩, h⟩
  | _ => intro R s K y h; simp [evC] at h
end
end Go.Co
