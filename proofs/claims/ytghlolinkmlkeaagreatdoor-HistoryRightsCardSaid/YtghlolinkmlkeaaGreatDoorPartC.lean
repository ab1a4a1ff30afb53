/-
  Code: its evaluation told of a run.
  Data within the bounds of its kinds.
  Functions: a contract from an evaluation; calls that are gone into.
  Loops: the rounds' function told of a run.
  A law: from a contract that answers true to the given statement's form.
  The library's table, as a row's condition gives it.
  Functions whose answers' slices are new memory: such a contract from an evaluation.
  Words and lemmas for plain proofs: arrays, loops told by their states, bounds.
  What the functions of keys and of the ratchet are to answer.
  What each function computes, printed by a program of my own (wip/tool) out of its run.
  What the functions of shapes, rosters and trees are to answer.
  What each function computes, printed by a program of my own (wip/tool) out of its run.
  What the functions of sets of slots, of moves and of steps are to answer.
  What each function computes, printed by a program of my own (wip/tool) out of its run.
  What the functions of members, of messages' parts and of sealed texts are to answer.
  What each function computes, printed by a program of my own (wip/tool) out of its run.
  Members: what messages of steps do to a device's state. What their functions are to answer.
  What each function computes, printed by a program of my own (wip/tool) out of its run.
  What the functions of recovery are to answer.
  What each function computes, printed by a program of my own (wip/tool) out of its run.
  No conditions. Own text, for the claims about coterie.
-/
import Derived.ProofKit
import Derived.OpenShut
import Derived.MakeChecks
import Derived.LaidMore
import Derived.LaidLaws
import Derived.FnData
import Derived.HandedShaped
import Derived.SevenTiedAt
import Derived.IntWalk
import Derived.Test.YtghlolinkmlkeaaGreatDoorPartB

section
namespace Go.Co
open Go.RowKit

section
variable {P : Program} {C : Ctx} {E : EE} (hE : EOK P C E) {n : Nat}
include hE
theorem evOps_ok {ops : Array Oper} {R : Type} {y : R} {K : AS → Option R} : ∀ (rest : List Oper) (i : Nat) (s : AS), ops.toList.drop i = rest → evOps E n ops.toList rest s K = some y →
    ∃ s', K s' = some y ∧ s.nx ≤ s'.nx ∧ ∀ (U : Nat → Prop) (e : Env) (a : Act) (Q : Exit → Act → World → Prop), free U s.nx s'.nx → Fit C n U e s a → (∀ e' a', Fit C n (taken U s.nx s'.nx) e' s' a' → Ext e e' → Frm e s.mem e' s'.mem → Q .normal a' e'.w) → wpOps P ops Q (List.range' i rest.length) a e.w := by
  intro rest
  induction rest with
  | nil => intro i s _ h; exact ⟨s, h, Nat.le_refl _, fun U e a Q _ hf hq => hq e a (hf.widen fun _ h => .inl h) (Ext.refl _) (Frm.refl _ _)⟩
  | cons o rest ih =>
    intro i s hdrop h
    have hoi : ops[i]? = some o := by
      have : ops.toList[i]? = some o := by
        have := congrArg (·[0]?) hdrop
        simpa using this
      simpa using this
    have hdrop' : ops.toList.drop (i + 1) = rest := by
      have := congrArg (List.drop 1) hdrop
      simpa [Nat.add_comm] using this
    simp only [evOps] at h
    split at h
    · cases h
    · rename_i hd
      -- the operation, run
      have run1 : opF E (opv s.slots) o.op s.mem s.nx (fun v m nx => evOps E n ops.toList rest (putDst ⟨s.slots, m, nx⟩ o.dst v) K) = some y → ∃ s', K s' = some y ∧ s.nx ≤ s'.nx ∧
          ∀ (U : Nat → Prop) (e : Env) (a : Act) (Q : Exit → Act → World → Prop), Region.wanted o (yielded ops a.tmps) = true → free U s.nx s'.nx → Fit C n U e s a → (∀ e' a', Fit C n (taken U s.nx s'.nx) e' s' a' → Ext e e' → Frm e s.mem e' s'.mem → Q .normal a' e'.w) → wpOps P ops Q (List.range' i (o :: rest).length) a e.w := by
        intro h
        obtain ⟨v, m', nx', hle, hk, _, hr⟩ := opF_ok hE h
        obtain ⟨s', hk', hle', hrest⟩ := ih (i + 1) _ hdrop' hk
        rw [putDst_nx] at hle'
        refine ⟨s', hk', Nat.le_trans hle hle', fun U e a Q hw hu hf hq => ?_⟩
        simp only [List.length_cons, List.range'_succ, wpOps, hoi, hw, if_true]
        refine .inl (OpRun.wp (OpRun.mono (hr e a.eval U (fun x => opv_ok hf.slots x) hf.mem (free_left hu hle')) ?_))
        rintro z w' ⟨e', rfl, hx, hm, hfr, hv⟩
        have hf' := hf.put (nx' := nx') hd hx hm hv
        have hfree : free (taken U s.nx nx') (putDst ⟨s.slots, m', nx'⟩ o.dst v).nx s'.nx := by rw [putDst_nx]; exact free_right hu hle
        refine hrest _ e' _ Q hfree hf' fun e2 a2 g1 g2 g3 => hq e2 a2 (g1.widen fun b hb => ?_) (hx.trans g2) (hfr.trans ?_)
        · rw [putDst_nx] at hb; exact (taken_taken hle hle').1 hb
        · rw [putDst_mem] at g3; exact g3
      have skip1 : evOps E n ops.toList rest (putDst s o.dst .nil) K = some y → ∃ s', K s' = some y ∧ s.nx ≤ s'.nx ∧
          ∀ (U : Nat → Prop) (e : Env) (a : Act) (Q : Exit → Act → World → Prop), Region.wanted o (yielded ops a.tmps) = false → free U s.nx s'.nx → Fit C n U e s a → (∀ e' a', Fit C n (taken U s.nx s'.nx) e' s' a' → Ext e e' → Frm e s.mem e' s'.mem → Q .normal a' e'.w) → wpOps P ops Q (List.range' i (o :: rest).length) a e.w := by
        intro h
        obtain ⟨s', hk', hle', hrest⟩ := ih (i + 1) _ hdrop' h
        rw [putDst_nx] at hle'
        refine ⟨s', hk', hle', fun U e a Q hw hu hf hq => ?_⟩
        simp only [List.length_cons, List.range'_succ, wpOps, hoi, hw, Bool.false_eq_true, if_false]
        have hf' := hf.put (nx' := s.nx) hd (Ext.refl _) hf.mem (v := .nil) (z := undef) (RV.skip e)
        refine hrest U e _ Q (by rw [putDst_nx]; exact hu) hf' fun e2 a2 g1 g2 g3 => hq e2 a2 (g1.widen fun b hb => ?_) g2 (by rw [putDst_mem] at g3; exact g3)
        rw [putDst_nx] at hb; exact hb
      split at h
      · rename_i hg
        obtain ⟨s', h1, h2, h3⟩ := run1 h
        exact ⟨s', h1, h2, fun U e a Q hu hf hq => h3 U e a Q (by simp [Region.wanted, hg]) hu hf hq⟩
      · rename_i j want hg
        split at h
        · cases h
        · rename_i d hdst
          split at h
          · rename_i b hb
            have hy : ∀ (U : Nat → Prop) (e : Env) (a : Act), Fit C n U e s a → yielded ops a.tmps j = some b := fun U e a hf => yielded_of hdst (by
              have := hf.slots d
              rw [hb] at this
              exact this.bool)
            split at h
            · cases b with
              | true =>
                rw [know_eq hb] at h
                obtain ⟨s', h1, h2, h3⟩ := run1 h
                exact ⟨s', h1, h2, fun U e a Q hu hf hq => h3 U e a Q (by simp [Region.wanted, hg, hy U e a hf]) hu hf hq⟩
              | false =>
                rw [know_eq hb] at h
                obtain ⟨s', h1, h2, h3⟩ := skip1 h
                exact ⟨s', h1, h2, fun U e a Q hu hf hq => h3 U e a Q (by simp [Region.wanted, hg, hy U e a hf]) hu hf hq⟩
            · cases b with
              | true =>
                rw [know_eq hb] at h
                obtain ⟨s', h1, h2, h3⟩ := skip1 h
                exact ⟨s', h1, h2, fun U e a Q hu hf hq => h3 U e a Q (by simp [Region.wanted, hg, hy U e a hf]) hu hf hq⟩
              | false =>
                rw [know_eq hb] at h
                obtain ⟨s', h1, h2, h3⟩ := run1 h
                exact ⟨s', h1, h2, fun U e a Q hu hf hq => h3 U e a Q (by simp [Region.wanted, hg, hy U e a hf]) hu hf hq⟩
          · rename_i hb
            obtain ⟨s', h1, h2, h3⟩ := skip1 h
            exact ⟨s', h1, h2, fun U e a Q hu hf hq => h3 U e a Q (by
              have := hf.slots d
              rw [hb] at this
              simp [Region.wanted, hg, yielded_nil hdst this.nil]) hu hf hq⟩
          · cases h
end

/-! ### Code -/
def AExit.toExit : AExit → Exit
  | .normal => .normal
  | .exit id => .exit id
  | .ret => .ret
/-- From the one state the code comes to the other. -/
def Tri (P : Program) (C : Ctx) (n : Nat) (c : Code) (s : AS) (r : AExit) (s' : AS) : Prop :=
  s.nx ≤ s'.nx ∧ ∀ (U : Nat → Prop) (e : Env) (a : Act) (Q : Exit → Act → World → Prop), free U s.nx s'.nx → Fit C n U e s a → (∀ e' a', Fit C n (taken U s.nx s'.nx) e' s' a' → Ext e e' → Frm e s.mem e' s'.mem → Q r.toExit a' e'.w) → c.wp P Q a e.w
def EvOK (P : Program) (C : Ctx) (n : Nat) (c : Code) (ev : (R : Type) → AS → (AExit → AS → Option R) → Option R) : Prop :=
  ∀ R s K y, ev R s K = some y → ∃ r s', Tri P C n c s r s' ∧ K r s' = some y
def LpOK (P : Program) (C : Ctx) (n : Nat) (E : EE) : Prop := ∀ body, EvOK P C n body (evC E n body) → EvOK P C n (.loop body) (E.lp (firstReg body) (evC E n body))
theorem Tri.seq {P : Program} {C : Ctx} {n : Nat} {x y : Code} {s s1 s2 : AS} {r : AExit} (h1 : Tri P C n x s .normal s1) (h2 : Tri P C n y s1 r s2) : Tri P C n (.seq x y) s r s2 := by
  refine ⟨Nat.le_trans h1.1 h2.1, fun U e a Q hu hf hq => wp_seq (h1.2 U e a _ (free_left hu h2.1) hf fun e1 a1 g1 g2 g3 => ?_)⟩
  exact h2.2 _ e1 a1 Q (free_right hu h1.1) g1 fun e2 a2 k1 k2 k3 => hq e2 a2 (k1.widen fun b hb => (taken_taken h1.1 h2.1).1 hb) (g2.trans k2) (g3.trans k3)
theorem Tri.seqOut {P : Program} {C : Ctx} {n : Nat} {x y : Code} {s s1 : AS} {r : AExit} (h1 : Tri P C n x s r s1) (hr : r ≠ .normal) : Tri P C n (.seq x y) s r s1 := by
  refine ⟨h1.1, fun U e a Q hu hf hq => wp_seq (h1.2 U e a _ hu hf fun e1 a1 g1 g2 g3 => ?_)⟩
  have := hq e1 a1 g1 g2 g3
  cases r with
  | normal => exact absurd rfl hr
  | exit id => exact this
  | ret => exact this

/-- What is told of pieces of the code holds. -/
def SpOK (P : Program) (C : Ctx) (n : Nat) (E : EE) : Code → Prop
  | .seq a b => match E.sp (firstReg a) with
    | some h => ∀ R s K y, h R s K = some y → ∃ s', Tri P C n (.seq a b) s .normal s' ∧ K s' = some y
    | none => SpOK P C n E a ∧ SpOK P C n E b
  | .cond _ x y => SpOK P C n E x ∧ SpOK P C n E y
  | .block _ b => SpOK P C n E b
  | .loop b => SpOK P C n E b
  | _ => True
theorem SpOK.none {P : Program} {C : Ctx} {n : Nat} {E : EE} (h : ∀ i, E.sp i = none) : ∀ c, SpOK P C n E c := by
  intro c
  induction c with
  | seq a b iha ihb => unfold SpOK; rw [h]; exact ⟨iha, ihb⟩
  | cond c x y ihx ihy => exact ⟨ihx, ihy⟩
  | block id b ih => exact ih
  | loop b ih => exact ih
  | _ => trivial

section
variable {P : Program} {C : Ctx} {E : EE} (hE : EOK P C E) {n : Nat} (hdraw : P.follows .mixedOrders = true) (hlp : LpOK P C n E)
include hE hdraw hlp
theorem evC_okS : ∀ c : Code, SpOK P C n E c → EvOK P C n c (evC E n c) := by
  intro c
  induction c with
  | skip => intro _ R s K y h; exact ⟨.normal, s, ⟨Nat.le_refl _, fun U e a Q _ hf hq => wp_skip (hq e a (hf.widen fun _ h => .inl h) (Ext.refl _) (Frm.refl _ _))⟩, h⟩
  | region id ops draw =>
    intro _ R s K y h
    simp only [evC] at h
    split at h
    · obtain ⟨s', hk, hle, hr⟩ := evOps_ok hE ops.toList 0 s rfl h
      refine ⟨.normal, s', ⟨hle, fun U e a Q hu hf hq => ?_⟩, hk⟩
      refine wp_region ?_
      have := hr U e a Q hu hf hq
      rw [List.range_eq_range']
      simpa using this
    · obtain ⟨xs, s', h1, h2⟩ := evDraw_ok hE (n := n) (ops := ops) _ _ _ h
      simp only [List.nil_append] at h2
      split at h2
      · rename_i hfine
        refine ⟨.normal, s', ⟨(chain_at _ _ _ _ h1).2.2.2.2.1, fun U e a Q hu hf hq => draw_ok hdraw h1 hfine hu hf hq⟩, h2⟩
      · cases h2
  | seq a b iha ihb =>
    intro hsp R s K y h
    unfold SpOK at hsp
    simp only [evC] at h
    cases hp : E.sp (firstReg a) with
    | some f =>
      rw [hp] at h hsp
      simp only at h hsp
      obtain ⟨s', ht, hk⟩ := hsp _ _ _ _ h
      exact ⟨.normal, s', ht, hk⟩
    | none =>
    rw [hp] at h hsp
    simp only at h hsp
    obtain ⟨r, s1, h1, h2⟩ := iha hsp.1 _ _ _ _ h
    cases r with
    | normal =>
      obtain ⟨r2, s2, h3, h4⟩ := ihb hsp.2 _ _ _ _ h2
      exact ⟨r2, s2, h1.seq h3, h4⟩
    | exit id => exact ⟨_, s1, h1.seqOut (by simp), h2⟩
    | ret => exact ⟨_, s1, h1.seqOut (by simp), h2⟩
  | cond c x z ihx ihz =>
    intro hsp R s K y h
    simp only [evC] at h
    split at h
    · rename_i b hb
      have hc : ∀ (U : Nat → Prop) (e : Env) (a : Act), Fit C n U e s a → a.eval c = .bool b := fun U e a hf => by
        have := opv_ok hf.slots c
        rw [hb] at this
        exact this.bool
      have hkn : knowO s c b = s := by
        cases c with
        | tmp t => exact know_eq hb
        | _ => rfl
      cases b with
      | true =>
        rw [hkn] at h
        obtain ⟨r, s1, h1, h2⟩ := ihx hsp.1 _ _ _ _ h
        exact ⟨r, s1, ⟨h1.1, fun U e a Q hu hf hq => wp_cond_true (hc U e a hf) (h1.2 U e a Q hu hf hq)⟩, h2⟩
      | false =>
        rw [hkn] at h
        obtain ⟨r, s1, h1, h2⟩ := ihz hsp.2 _ _ _ _ h
        exact ⟨r, s1, ⟨h1.1, fun U e a Q hu hf hq => wp_cond_false (hc U e a hf) (h1.2 U e a Q hu hf hq)⟩, h2⟩
    · cases h
  | block id body ih =>
    intro hsp R s K y h
    simp only [evC] at h
    obtain ⟨r, s1, h1, h2⟩ := ih hsp _ _ _ _ h
    cases r with
    | normal => exact ⟨.normal, s1, ⟨h1.1, fun U e a Q hu hf hq => wp_block (h1.2 U e a _ hu hf fun e1 a1 g1 g2 g3 => hq e1 a1 g1 g2 g3)⟩, h2⟩
    | ret => exact ⟨.ret, s1, ⟨h1.1, fun U e a Q hu hf hq => wp_block (h1.2 U e a _ hu hf fun e1 a1 g1 g2 g3 => hq e1 a1 g1 g2 g3)⟩, h2⟩
    | exit j =>
      simp only at h2
      cases hj : Nat.beq j id with
      | true =>
        rw [hj] at h2
        have := Nat.eq_of_beq_eq_true hj; subst this
        exact ⟨.normal, s1, ⟨h1.1, fun U e a Q hu hf hq => wp_block (h1.2 U e a _ hu hf fun e1 a1 g1 g2 g3 => by
          have := hq e1 a1 g1 g2 g3
          simpa [AExit.toExit, Exit.inBlock] using this)⟩, h2⟩
      | false =>
        rw [hj] at h2
        have hne : j ≠ id := by rintro rfl; simp at hj
        exact ⟨.exit j, s1, ⟨h1.1, fun U e a Q hu hf hq => wp_block (h1.2 U e a _ hu hf fun e1 a1 g1 g2 g3 => by
          have := hq e1 a1 g1 g2 g3
          simpa [AExit.toExit, Exit.inBlock, hne] using this)⟩, h2⟩
  | loop body ih =>
    intro hsp R s K y h
    simp only [evC] at h
    exact hlp body (ih hsp) R s K y h
  | exit id => intro _ R s K y h; exact ⟨.exit id, s, ⟨Nat.le_refl _, fun U e a Q _ hf hq => wp_exit (hq e a (hf.widen fun _ h => .inl h) (Ext.refl _) (Frm.refl _ _))⟩, h⟩
  | ret => intro _ R s K y h; exact ⟨.ret, s, ⟨Nat.le_refl _, fun U e a Q _ hf hq => wp_ret (hq e a (hf.widen fun _ h => .inl h) (Ext.refl _) (Frm.refl _ _))⟩, h⟩
  | _ => intro _ R s K y h; simp [evC] at h
theorem evC_ok (h0 : ∀ i, E.sp i = none) (c : Code) : EvOK P C n c (evC E n c) := evC_okS hE hdraw hlp c (SpOK.none h0 c)
end
end Go.Co
end

section
namespace Go.Co

/-- Whole numbers lie in their kinds, texts and slices aren't too long. -/
def Fine : (t : Ty) → t.den → Prop
  | .int k, n => inKind k n = true
  | .bool, _ => True
  | .str, s => s.size ≤ top
  | .unit, _ => True
  | .prod a b, x => Fine a x.1 ∧ Fine b x.2
  | .arr _ t, x => ∀ y ∈ Vector.toList x, Fine t y
  | .list t, xs => List.length xs * t.bytes ≤ top ∧ ∀ y ∈ xs, Fine t y
  | .st s, x => Fine s.body (s.unpack x)
termination_by t => t.wt
decreasing_by
  all_goals first
    | (simp only [Ty.wt]; omega)
    | (simp only [Ty.wt]; exact St.wt_body _)
theorem Fine.int {k : IntKind} {n : Int} : Fine (.int k) n ↔ inKind k n = true := by rw [Fine]
theorem Fine.str {s : ByteArray} : Fine .str s ↔ s.size ≤ top := by rw [Fine]
theorem Fine.prod {a b : Ty} {x : a.den × b.den} : Fine (.prod a b) x ↔ Fine a x.1 ∧ Fine b x.2 := by rw [Fine]
theorem Fine.arr {n : Nat} {t : Ty} {x : Arr n t.den} : Fine (.arr n t) x ↔ ∀ y ∈ Vector.toList x, Fine t y := by rw [Fine]
theorem Fine.list {t : Ty} {xs : List t.den} : Fine (.list t) xs ↔ List.length xs * t.bytes ≤ top ∧ ∀ y ∈ xs, Fine t y := by rw [Fine]
theorem Fine.st {s : St} {x : s.den} : Fine (.st s) x ↔ Fine s.body (s.unpack x) := by rw [Fine]
theorem Fine.unit {x : Unit} : Fine .unit x ↔ True := by rw [Fine]
theorem Fine.bool {x : Bool} : Fine .bool x ↔ True := by rw [Fine]
theorem All2.mem {α β : Type} {R : α → β → Prop} : ∀ {xs : List α} {ys : List β}, All2 R xs ys → ∀ x ∈ xs, ∃ y, R x y
  | [], [], _, x, h => by simp at h
  | a :: xs, b :: ys, h, x, hx => by
    rcases List.mem_cons.1 hx with rfl | hx
    · exact ⟨b, h.1⟩
    · exact All2.mem h.2 x hx
theorem Rd.fine {w : World} {im : Nat → Prop} : ∀ (t : Ty) (x : t.den) (cs : List Value), Rd w im t x cs → Fine t x := by
  refine Ty.ind ?_ ?_ ?_ ?_ ?_ ?_ ?_ ?_
  · intro k x cs h; exact Fine.int.2 (Rd.int.1 h).2
  · intro x cs _; exact Fine.bool.2 trivial
  · intro x cs h; exact Fine.str.2 (Rd.str.1 h).2
  · intro x cs _; exact Fine.unit.2 trivial
  · intro a b iha ihb x cs h
    obtain ⟨c, d, _, h1, h2⟩ := Rd.prod.1 h
    exact Fine.prod.2 ⟨iha _ _ h1, ihb _ _ h2⟩
  · intro n t ih x cs h
    obtain ⟨css, _, hall⟩ := Rd.arr.1 h
    exact Fine.arr.2 fun y hy => by obtain ⟨c, hc⟩ := hall.mem y hy; exact ih _ _ hc
  · intro t ih x cs h
    obtain ⟨hb, h⟩ := Rd.list.1 h
    refine Fine.list.2 ⟨hb, fun y hy => ?_⟩
    rcases h with ⟨_, hx⟩ | ⟨a, cap, css, _, _, _, _, hall, _⟩
    · have hx : x = [] := hx
      rw [hx] at hy; cases hy
    · obtain ⟨c, hc⟩ := hall.mem y hy; exact ih _ _ hc
  · intro s ih x cs h; exact Fine.st.2 (ih _ _ (Rd.st.1 h))
def FineL : (l : List Ty) → denL l → Prop
  | [], _ => True
  | t :: r, x => Fine t x.1 ∧ FineL r x.2
end Go.Co
end

section
namespace Go.Co
open Go.RowKit

def resOf (tmps : Array Value) : ResultVar → Sem Value
  | .tmp t => pure (tmps.getD t undef)
  | .cell a t => do loadVar t (← asAddr (tmps.getD a undef))
theorem results_run {P : Program} {fn : Func} {tmps : Array Value} {w : World} {zs : List Value} (h : (fn.results.toList.mapM (resOf tmps)).run P w = .ok zs w) :
    (results fn tmps).run P w = .ok (if h : zs.toArray.size = 1 then zs.toArray[0] else .tuple zs.toArray) w := by
  have he : (fun | .tmp t => pure (tmps.getD t undef) | .cell a t => do loadVar t (← asAddr (tmps.getD a undef)) : ResultVar → Sem Value) = resOf tmps := by
    funext r; cases r <;> rfl
  have h2 : (fn.results.mapM (resOf tmps)).run P w = .ok zs.toArray w := by
    rw [Array.mapM_eq_mapM_toList]
    simp [h]
  have h3 : results fn tmps = (do let vs ← fn.results.mapM (resOf tmps); pure (if h : vs.size = 1 then vs[0] else .tuple vs) : Sem Value) := by
    unfold results
    congr 2
  rw [h3]
  simp only [Sem.run_bind, h2]
  rfl
section
variable {P : Program} {C : Ctx} {T : Tab} (hT : TabOK P T) {n : Nat}
include hT
theorem resList_ok {U : Nat → Prop} {s : AS} {e : Env} {a : Act} (hf : Fit C n U e s a) : ∀ (rs : List ResultVar) (vs : List AV), resList T s rs = some vs → ∃ zs, (rs.mapM (resOf a.tmps)).run P e.w = .ok zs e.w ∧ All2 (RV e) vs zs := by
  intro rs
  induction rs with
  | nil => intro vs h; simp [resList] at h; subst h; exact ⟨[], by simp, trivial⟩
  | cons r rs ih =>
    intro vs h
    simp only [resList] at h
    split at h
    · rename_i v vs' hv hvs
      cases h
      obtain ⟨zs, h1, h2⟩ := ih vs' hvs
      have : ∃ z, (resOf a.tmps r).run P e.w = .ok z e.w ∧ RV e v z := by
        cases r with
        | tmp t => simp [resOne] at hv; subst hv; exact ⟨_, by simp [resOf], hf.slots t⟩
        | cell t tid =>
          simp only [resOne] at hv
          obtain ⟨v', hk, hr⟩ := loadK_ok (P := P) (C := C) (U := U) hT hv
          cases hk
          obtain ⟨z, hz, hvz⟩ := hr e _ (hf.slots t) hf.mem
          refine ⟨z, ?_, hvz⟩
          have ha : ∃ ad, a.tmps.getD t undef = .pointer (some ad) := by
            have hs := hf.slots t
            cases hst : s.slots t with
            | ptr b p => rw [hst] at hs; obtain ⟨_, _, _, _, _, _, _, h⟩ := hs.ptr; exact ⟨_, h⟩
            | eptr u x => rw [hst] at hs; obtain ⟨_, _, h, _⟩ := hs.eptr; exact ⟨_, h⟩
            | _ => rw [hst] at hv; unfold loadK at hv; split at hv <;> simp_all
          obtain ⟨ad, ha⟩ := ha
          rw [ha] at hz
          have : (loadVar tid ad).run P e.w = .ok z e.w := by simpa [Instr.loadAt, Instr.sureAddr] using hz
          simp [resOf, ha, asAddr, this]
      obtain ⟨z, hz, hv⟩ := this
      exact ⟨z :: zs, by simp [List.mapM_cons, hz, h1], hv, h2⟩
    · cases h
end

/-- One value, or more as a tuple. -/
def resVal (zs : List Value) : Value := if h : zs.toArray.size = 1 then zs.toArray[0] else .tuple zs.toArray
theorem RVs_of {E : Env} : ∀ {vs : List AV} {zs : List Value}, All2 (RV E) vs zs → vs.all solid = true → RVs E (AV.ofList vs) zs
  | [], [], _, _ => rfl
  | [], _ :: _, h, _ => h.elim
  | _ :: _, [], h, _ => h.elim
  | v :: vs, z :: zs, h, hs => by
    simp at hs
    obtain ⟨cs, h1, h2⟩ := h.1.cells (by rintro rfl; simp [solid] at hs) (by rintro l rfl; simp [solid] at hs)
    exact ⟨cs, zs, by rw [h1], h2, RVs_of h.2 (by simpa using hs.2)⟩
theorem resPack_ok {E : Env} {vs : List AV} {zs : List Value} {v : AV} (h : All2 (RV E) vs zs) (hp : resPack vs = some v) : RV E v (resVal zs) := by
  unfold resPack at hp
  split at hp
  · rename_i v'
    cases hp
    match zs, h with
    | [z], ⟨h1, _⟩ => exact h1
  · rename_i hne
    split at hp
    · rename_i hs
      cases hp
      have hz : zs.toArray.size ≠ 1 := by
        intro he
        have hl := h.length
        simp at he
        rw [he] at hl
        match vs, hl with
        | [a], _ => exact hne a rfl
      refine ⟨zs, ?_, RVs_of h hs⟩
      unfold resVal; rw [dif_neg hz]
    · cases hp

/-- A frame at its beginning. -/
theorem fit_init {C : Ctx} {U : Nat → Prop} {e : Env} {vs : List AV} {zs : List Value} {m : Mem} {nx n : Nat} (hv : All2 (RV e) vs zs) (hm : MR C e m U) (hn : vs.length ≤ n) :
    Fit C n U e (initS vs m nx) { tmps := zs.toArray ++ Array.replicate (n - zs.toArray.size) undef, defers := [] } := by
  have hl := hv.length
  refine ⟨rfl, by simp; omega, fun i => ?_, hm⟩
  have slot : ∀ (vs : List AV) (i : Nat), slotL vs i = vs.getD i .junk := by
    intro vs
    induction vs with
    | nil => intro i; cases i <;> rfl
    | cons v vs ih => intro i; cases i with
      | zero => rfl
      | succ i => simp [slotL, ih, List.getD]
  show RV e (slotL vs i) _
  rw [slot]
  by_cases hi : i < vs.length
  · obtain ⟨z, hz, hr⟩ := hv.get i _ (List.getElem?_eq_getElem hi)
    have h1 : vs.getD i .junk = vs[i] := by simp [List.getD, List.getElem?_eq_getElem hi]
    rw [h1, Array.getD_eq_getD_getElem?, Array.getElem?_append_left (by simp; omega)]
    simp [hz, hr]
  · have h1 : vs.getD i .junk = .junk := by simp [List.getD, List.getElem?_eq_none (Nat.le_of_not_lt hi)]
    rw [h1]; trivial

theorem argsRd_fine {w : World} {im : Nat → Prop} : ∀ (l : List Ty) (x : denL l) (xs : List Value), argsRd w im l x xs → FineL l x
  | [], _, [], _ => trivial
  | [], _, _ :: _, h => h.elim
  | _ :: _, _, [], h => h.elim
  | t :: r, x, v :: vs, h => by
    obtain ⟨⟨cs, _, h2⟩, h3⟩ := h
    exact ⟨Rd.fine _ _ _ h2, argsRd_fine r x.2 vs h3⟩
theorem argsRd_all {w : World} {im : Nat → Prop} {ρ : Nat → Option BT} : ∀ (l : List Ty) (x : denL l) (xs : List Value), argsRd w im l x xs → All2 (RV ⟨ρ, w, im⟩) (argVs l x) xs
  | [], _, [], _ => trivial
  | [], _, _ :: _, h => h.elim
  | _ :: _, _, [], h => h.elim
  | t :: r, x, v :: vs, h => by
    obtain ⟨⟨cs, h1, h2⟩, h3⟩ := h
    exact ⟨⟨cs, h1, h2⟩, argsRd_all r x.2 vs h3⟩

section
variable {P : Program} {f : Nat} {fn : Func} {body : Code} (hf : P.funcs[f]? = some fn) (hb : fn.body = some body) (hname : (fn.name == "runtime.NumGoroutine") = false)
include hf hb hname
theorem FnOK.of : FnOK P f := ⟨fn, hf, hname, by rw [hb]; rfl⟩
omit hf hb hname in
/-- Answers of plain data, at the end. -/
theorem resAV_of {im : Nat → Prop} {w : World} : ∀ (l : List Ty) (y : denL l) (zs : List Value), argsRd w im l y zs → RV ⟨fun _ => none, w, im⟩ (resAV l y) (resVal zs) := by
  have hvs : ∀ (l : List Ty) (y : denL l) (zs : List Value), argsRd w im l y zs → RVs ⟨fun _ => none, w, im⟩ (resVs l y) zs := by
    intro l
    induction l with
    | nil =>
      intro y zs h
      cases zs with
      | nil => rfl
      | cons z zs => exact h.elim
    | cons t r ih =>
      intro y zs h
      cases zs with
      | nil => exact h.elim
      | cons z zs =>
        obtain ⟨⟨cs, h1, h2⟩, h3⟩ := h
        exact ⟨cs, zs, by rw [h1]; rfl, h2, ih y.2 zs h3⟩
  intro l y zs h
  match l, y, zs, h with
  | [t], y, [z], ⟨⟨cs, h1, h2⟩, _⟩ => exact ⟨cs, h1, h2⟩
  | [], y, [], _ => exact ⟨[], rfl, rfl⟩
  | t :: u :: r, y, zs, h =>
    refine ⟨zs, ?_, hvs (t :: u :: r) y zs h⟩
    have : zs.toArray.size ≠ 1 := by
      match zs, h with
      | [], h => exact h.elim
      | [z], h => exact h.2.elim
      | _ :: _ :: _, _ => simp
    unfold resVal; rw [dif_neg this]
theorem con_of {E : EE} {c : Con} (hE : ∀ C, C.P = P → EOK P C E) (hlp : ∀ C, C.P = P → LpOK P C fn.ntmps E) (hsp : ∀ C, C.P = P → SpOK P C fn.ntmps E body) (hdraw : P.follows .mixedOrders = true) (hargs : c.args.all plainTy = true) (hres : c.res.all plainTy = true) (hn : Nat.ble c.args.length fn.ntmps = true)
    (h : ∀ x y, FineL c.args x → c.fn x = some y → evF E fn body c.args x (retK E.T fn.results.toList c.res) = some y) : ConOK P f c := by
  refine ⟨FnOK.of hf hb hname, fun t ht => List.all_eq_true.1 hargs t ht, fun w I x xs y hg hI hx hc => ?_⟩
  let C : Ctx := ⟨P, w, I, hg⟩
  let e : Env := ⟨fun _ => none, w, I⟩
  have hm : MR C e (fun _ => .none) (fun _ => False) := by
    refine ⟨Blw.refl _ _, fun _ => trivial, ?_, ?_, hI, fun k hk _ => hk, ?_⟩
    · rintro k ⟨b, bt, hl, _⟩; exact hl.elim
    · intro b b' bt bt' k hl; exact hl.elim
    · intro b bt hb; cases hb
  have hlen : ∀ (l : List Ty) (x : denL l), (argVs l x).length = l.length := by
    intro l
    induction l with
    | nil => intro x; rfl
    | cons t r ih => intro x; simp [argVs, ih]
  have hfit := fit_init (n := fn.ntmps) (nx := 0) (argsRd_all (ρ := fun _ => none) c.args x xs hx) hm (by rw [hlen]; exact Nat.le_of_ble_eq_true hn)
  have hev := h x y (argsRd_fine c.args x xs hx) hc
  unfold evF at hev
  obtain ⟨r, s', ht, hk⟩ := evC_okS (hE C rfl) hdraw (hlp C rfl) body (hsp C rfl) _ _ _ _ hev
  refine calls_of_wp hf hb (ht.2 _ e _ _ (fun _ _ _ h => h) hfit fun e' a' hf' hx' hfr' => ?_)
  have hpost : r ≠ .normal ∧ r ≠ .ret ∨ (a'.defers = [] ∧ ∃ v, (results fn a'.tmps).run P e'.w = .ok v e'.w ∧ ∃ z, (Ending.returned v) = .returned z ∧ Blw w.heap.size w e'.w ∧ RV ⟨fun _ => none, e'.w, fun k => k < e'.w.heap.size ∧ (k < w.heap.size → I k)⟩ (resAV c.res y) z) := by
    unfold retK at hk
    split at hk
    · exact .inl ⟨by simp, by simp⟩
    · right
      split at hk
      · rename_i vs hvs
        obtain ⟨zs, hz, hall⟩ := resList_ok (hE C rfl).tab hf' _ _ hvs
        refine ⟨hf'.defers, _, results_run hz, _, rfl, hf'.mem.below, ?_⟩
        have hrd := toPureL_ok hf'.mem (im := fun k => k < e'.w.heap.size ∧ (k < w.heap.size → I k)) (fun k hk => ⟨hf'.mem.immLt k hk, fun hlt => hf'.mem.immI k hk hlt⟩) c.res vs zs y (fun t ht => List.all_eq_true.1 hres t ht) hk hall
          (fun v _ b bt k _ hl hb hkk => by
            have ho := hf'.mem.own k ⟨b, bt, hl, hb, hkk⟩
            exact ⟨ho.1, fun hlt => absurd (show w.heap.size ≤ k from ho.2.1) (by omega)⟩)
        exact resAV_of c.res y zs hrd
      · cases hk
  cases r with
  | normal => rcases hpost with h | h; exact absurd rfl h.1; exact h
  | ret => rcases hpost with h | h; exact absurd rfl h.2; exact h
  | exit id => simp [retK] at hk
end

/-- Calls that are gone into. -/
def BodiesOK (P : Program) (B : Bodies) : Prop := ∀ f n rs body, bodyOf B f = some (n, rs, body) → ∃ fn, P.funcs[f]? = some fn ∧ fn.body = some body ∧ fn.ntmps = n ∧ fn.results.toList = rs ∧ (fn.name == "runtime.NumGoroutine") = false
end Go.Co
end

section
namespace Go.Co
open Go.RowKit

theorem catL_eq {α : Type} (a b : List α) : catL a b = a ++ b := by
  induction a with
  | nil => rfl
  | cons x a ih => simp [catL, ih]
theorem eqPS_eq {a b : PS} (h : eqPS a b = true) : a = b := by
  cases a <;> cases b <;> simp [eqPS] at h
  · rw [h]
  · rw [h]
theorem eqP_eq : ∀ {a b : List PS}, eqP a b = true → a = b
  | [], [], _ => rfl
  | _ :: _, _ :: _, h => by simp [eqP] at h; rw [eqPS_eq h.1, eqP_eq h.2]
theorem eqL_eq : ∀ {a b : List Nat}, eqL a b = true → a = b
  | [], [], _ => rfl
  | _ :: _, _ :: _, h => by simp [eqL] at h; rw [h.1, eqL_eq h.2]
theorem rowFree_rows {m : Mem} : ∀ {v : AV} {b : Nat}, rowFree m v = true → rowsOf v b → ¬ live (m b) := by
  intro v
  induction v with
  | sl b' =>
    intro b h hb
    cases hb
    simp only [rowFree] at h
    split at h
    · rename_i he; rw [he]; exact fun h => h
    · cases h
  | ssl b' lo hi =>
    intro b h hb
    cases hb
    simp only [rowFree] at h
    split at h
    · rename_i he; rw [he]; exact fun h => h
    · cases h
  | asl b p => intro b h; simp [rowFree] at h
  | agv s l ih => intro b h; exact ih h
  | cons a l iha ihl =>
    intro b h
    simp [rowFree] at h
    rintro (h1 | h1)
    · exact iha h.1 h1
    · exact ihl h.2 h1
  | _ => intro b _ h; exact h.elim

/-- A row's place, and what lies there. -/
def RowRel (m : Mem) (r : Ty × Option Nat) (ab : AB) : Prop :=
  match r.2 with
  | some b => (∃ xs, m b = .slab r.1 xs ∧ ab = .slab r.1 xs) ∨ ∃ k v l, m b = .map k v l ∧ ab = .map k v l
  | none => ab = .slab r.1 []
theorem rd_rows {m : Mem} : ∀ (sh : Sh) (v : AV) (x : sh.den), rdAV sh m v = some x → All2 (RowRel m) (rdRows sh v) (rowsX sh x) ∧ (rdRows sh v).length = rowsIn sh := by
  intro sh
  induction sh with
  | row t =>
    intro v x h
    simp only [rdAV] at h
    split at h
    · cases h; exact ⟨⟨rfl, trivial⟩, rfl⟩
    · rename_i b
      split at h
      · rename_i e xs hm
        obtain ⟨e1, hx⟩ := cast?_some h
        cases e1
        have hx : xs = x := hx
        subst hx
        exact ⟨⟨.inl ⟨xs, hm, rfl⟩, trivial⟩, rfl⟩
      · cases h
    · cases h
  | omp k w =>
    intro v x h
    simp only [rdAV] at h
    split at h
    · rename_i b
      split at h
      · rename_i k' w' l hm
        obtain ⟨e1, hx⟩ := cast?_some h
        cases e1
        have hx : l = x := hx
        subst hx
        exact ⟨⟨.inr ⟨_, _, l, hm, rfl⟩, trivial⟩, rfl⟩
      · cases h
    · cases h
  | agv s l ih =>
    intro v x h
    simp only [rdAV] at h
    split at h
    · split at h
      · exact ih _ x h
      · cases h
    · cases h
  | cons a l iha ihl =>
    intro v x h
    simp only [rdAV] at h
    split at h
    · split at h
      · rename_i p q hp hq
        cases h
        obtain ⟨h1, h2⟩ := iha _ p hp
        obtain ⟨h3, h4⟩ := ihl _ q hq
        simp only [rdRows, rowsX, catL_eq, rowsIn]
        exact ⟨h1.append h3, by simp [h2, h4]⟩
      · cases h
    · cases h
  | _ => intro v x _; exact ⟨trivial, rfl⟩

/-- The other names of the one environment in the other. -/
structure Ren (e e' : Env) (base k : Nat) (rows : List (Ty × Option Nat)) : Prop where
  w : e'.w = e.w
  imm : e'.imm = e.imm
  old : ∀ b, b < base → e'.ρ b = e.ρ b
  row : ∀ (i : Nat) (t : Ty) (o : Option Nat), rows[i]? = some (t, o) → e'.ρ (k + i) = match o with | some b => e.ρ b | none => some (.nilslab t)
theorem Ren.left {e e' : Env} {base k : Nat} {r s : List (Ty × Option Nat)} (h : Ren e e' base k (r ++ s)) : Ren e e' base k r :=
  ⟨h.w, h.imm, h.old, fun i t o hi => h.row i t o (by rw [List.getElem?_append_left (List.getElem?_eq_some_iff.1 hi).1]; exact hi)⟩
theorem Ren.right {e e' : Env} {base k : Nat} {r s : List (Ty × Option Nat)} (h : Ren e e' base k (r ++ s)) : Ren e e' base (k + r.length) s :=
  ⟨h.w, h.imm, h.old, fun i t o hi => by
    have := h.row (r.length + i) t o (by rw [List.getElem?_append_right (by omega), Nat.add_sub_cancel_left]; exact hi)
    rwa [← Nat.add_assoc] at this⟩
theorem caps_ren {ρ ρ' : Nat → Option BT} {base : Nat} (h : ∀ b, b < base → ρ' b = ρ b) : ∀ {c : List Nat} {vs : List Value}, c.all (Nat.blt · base) = true → capsRel ρ c vs → capsRel ρ' c vs
  | [], [], _, _ => trivial
  | b :: c, v :: vs, hb, ⟨hx, h3⟩ => by
    simp at hb
    refine ⟨?_, caps_ren h (by simpa using hb.2) h3⟩
    rcases hx with ⟨k, t, h1, h2⟩ | ⟨k, x, y, h1, h2⟩
    · exact .inl ⟨k, t, by rw [h b hb.1]; exact h1, h2⟩
    · exact .inr ⟨k, x, y, by rw [h b hb.1]; exact h1, h2⟩
theorem rd_RC {C : Ctx} {e e' : Env} {m : Mem} {U : Nat → Prop} {base : Nat} (hm : MR C e m U) : ∀ (sh : Sh) (v : AV) (x : sh.den) (k : Nat) (cs : List Value), rdAV sh m v = some x → shBelow base sh = true → Ren e e' base k (rdRows sh v) → RC e v cs → RC e' (mkAV sh k x) cs := by
  intro sh
  induction sh with
  | junk => intro v x k cs _ h; simp [shBelow] at h
  | hole t =>
    intro v x k cs h _ hr hc
    simp only [rdAV] at h
    split at h
    · rename_i _ hf
      have := toPure_RC hm (im := e.imm) (fun _ h => h) v t x cs h hc (fun b bt k hb hl => absurd hl (rowFree_rows hf hb))
      show Rd e'.w e'.imm t x cs
      rw [hr.w, hr.imm]; exact this
    · cases h
  | row t =>
    intro v x k cs h _ hr hc
    simp only [rdAV] at h
    split at h
    · have h1 := hr.row 0 t none rfl
      exact .inl ⟨t, h1, hc⟩
    · rename_i b
      have h1 := hr.row 0 t (some b) rfl
      rcases hc with ⟨t', hb, he⟩ | ⟨k', t', cap, len, hb, he⟩
      · exact .inl ⟨t', by rw [show k = k + 0 from rfl, h1]; exact hb, he⟩
      · exact .inr ⟨k', t', cap, len, by rw [show k = k + 0 from rfl, h1]; exact hb, he⟩
    · cases h
  | eptr t =>
    intro v x k cs h _ hr hc
    simp only [rdAV] at h
    split at h
    · obtain ⟨e1, hx⟩ := cast?_some h
      subst e1; subst hx
      obtain ⟨a, c, h1, h2, h3, h4, h5⟩ := hc
      exact ⟨a, c, h1, h2, by rw [hr.imm]; exact h3, by rw [hr.w, hr.imm]; exact h4, by rw [hr.w]; exact h5⟩
    · cases h
  | nils =>
    intro v x k cs h _ hr hc
    cases v <;> simp [rdAV] at h
    exact hc
  | ptr b p =>
    intro v x k cs h hb hr hc
    cases v <;> simp only [rdAV] at h <;> try (cases h; done)
    split at h
    · rename_i h1 h2
      have := Nat.eq_of_beq_eq_true h1; subst this
      have := eqP_eq h2; subst this
      obtain ⟨bt, k', u, o, g1, g2⟩ := hc
      simp [shBelow] at hb
      exact ⟨bt, k', u, o, by rw [hr.old b hb]; exact g1, g2⟩
    · cases h
  | mp b =>
    intro v x k cs h hb hr hc
    cases v <;> simp only [rdAV] at h <;> try (cases h; done)
    split at h
    · rename_i h1
      have := Nat.eq_of_beq_eq_true h1; subst this
      obtain ⟨k', u, o, g1, g2⟩ := hc
      simp [shBelow] at hb
      exact ⟨k', u, o, by rw [hr.old b hb]; exact g1, g2⟩
    · cases h
  | asl b p =>
    intro v x k cs h hb hr hc
    cases v <;> simp only [rdAV] at h <;> try (cases h; done)
    split at h
    · rename_i h1 h2
      have := Nat.eq_of_beq_eq_true h1; subst this
      have := eqP_eq h2; subst this
      obtain ⟨k', t, n', u, o, g1, g2⟩ := hc
      simp [shBelow] at hb
      exact ⟨k', t, n', u, o, by rw [hr.old b hb]; exact g1, g2⟩
    · cases h
  | slf b =>
    intro v x k cs h hb hr hc
    cases v <;> simp only [rdAV] at h <;> try (cases h; done)
    split at h
    · rename_i h1
      have := Nat.eq_of_beq_eq_true h1; subst this
      simp [shBelow] at hb
      rcases hc with ⟨t', hb', he⟩ | ⟨k', t', cap, len, hb', he⟩
      · exact .inl ⟨t', by rw [hr.old b hb]; exact hb', he⟩
      · exact .inr ⟨k', t', cap, len, by rw [hr.old b hb]; exact hb', he⟩
    · cases h
  | ssl b =>
    intro v x k cs h hb hr hc
    cases v <;> simp only [rdAV] at h <;> try (cases h; done)
    split at h
    · rename_i hi _ _ h1
      cases h
      have := Nat.eq_of_beq_eq_true h1; subst this
      simp [shBelow] at hb
      obtain ⟨g1, g2, ⟨t', hb', he⟩ | ⟨k', t', cap, len, a, c, hb', he⟩⟩ := hc
      · exact ⟨g1, g2, .inl ⟨t', by rw [hr.old b hb]; exact hb', he⟩⟩
      · exact ⟨g1, g2, .inr ⟨k', t', cap, len, a, c, by rw [hr.old b hb]; exact hb', he⟩⟩
    · cases h
  | fn f c =>
    intro v x k cs h hb hr hc
    cases v <;> simp only [rdAV] at h <;> try (cases h; done)
    split at h
    · rename_i h1 h2
      have := Nat.eq_of_beq_eq_true h1; subst this
      have := eqL_eq h2; subst this
      obtain ⟨vs, g1, g2⟩ := hc
      exact ⟨vs, caps_ren hr.old hb g1, g2⟩
    · cases h
  | nilp =>
    intro v x k cs h _ hr hc
    cases v <;> simp [rdAV] at h
    exact hc
  | omp kt wt =>
    intro v x k cs h _ hr hc
    simp only [rdAV] at h
    split at h
    · rename_i b
      have h1 := hr.row 0 .unit (some b) rfl
      obtain ⟨k', u, o, g1, g2⟩ := hc
      exact ⟨k', u, o, by rw [show k = k + 0 from rfl, h1]; exact g1, g2⟩
    · cases h
  | agv s l ih =>
    intro v x k cs h hb hr hc
    cases v <;> simp only [rdAV] at h <;> try (cases h; done)
    split at h
    · exact ih _ x k cs h hb hr hc
    · cases h
  | nil =>
    intro v x k cs h _ hr hc
    cases v <;> simp [rdAV] at h
    exact hc
  | cons a l iha ihl =>
    intro v x k cs h hb hr hc
    cases v <;> simp only [rdAV] at h <;> try (cases h; done)
    rename_i b r
    split at h
    · rename_i p q hp hq
      cases h
      simp only [shBelow, Bool.and_eq_true] at hb
      simp only [rdRows, catL_eq] at hr
      obtain ⟨c, d, rfl, h1, h2⟩ := hc
      have hlen := (rd_rows a b p hp).2
      refine ⟨c, d, rfl, iha _ p k c hp hb.1 hr.left h1, ?_⟩
      have := hr.right
      rw [hlen] at this
      exact ihl _ q _ d hq hb.2 this h2
    · cases h
theorem mk_agg {m : Mem} {sh : Sh} {v : AV} {x : sh.den} {k : Nat} (h : rdAV sh m v = some x) (hj : sh ≠ .junk) : (mkAV sh k x).isAgg = v.isAgg := by
  cases sh with
  | junk => exact absurd rfl hj
  | hole t =>
    simp only [rdAV] at h
    split at h
    · rename_i hp _
      refine (toPure_agg h ?_ ?_).symm
      · rintro rfl; cases t <;> simp [toPure] at h; simp [plainTy] at hp
      · rintro a l rfl; cases t <;> simp [toPure] at h; simp [plainTy] at hp
    · cases h
  | _ => cases v <;> simp [rdAV] at h <;> rfl
theorem rd_RV {C : Ctx} {e e' : Env} {m : Mem} {U : Nat → Prop} {base : Nat} (hm : MR C e m U) {sh : Sh} {v : AV} {x : sh.den} {k : Nat} {z : Value} (h : rdAV sh m v = some x) (hb : shBelow base sh = true) (hr : Ren e e' base k (rdRows sh v)) (hz : RV e v z) : RV e' (mkAV sh k x) z := by
  have hj : sh ≠ .junk := by rintro rfl; simp [shBelow] at hb
  obtain ⟨cs, rfl, hc⟩ := hz.cells (by
    rintro rfl
    cases sh <;> simp [rdAV] at h
    · exact hj rfl
    · split at h <;> simp [toPure] at h) (by
    rintro l rfl
    cases sh <;> simp [rdAV] at h
    · exact hj rfl
    · split at h <;> simp [toPure] at h)
  rw [← mk_agg (k := k) h hj]
  exact RV.of (rd_RC hm sh v x k cs h hb hr hc)

/-! ### States -/
theorem rdSl_rows : ∀ (l : List (Nat × Sh)) (s : AS) (x : denSl l), rdSl l s = some x → All2 (RowRel s.mem) (rdRowsSl l s) (rowsSlX l x) ∧ (rdRowsSl l s).length = rowsSl l
  | [], _, _, _ => ⟨trivial, rfl⟩
  | (i, sh) :: r, s, x, h => by
    simp only [rdSl] at h
    split at h
    · rename_i p q hp hq
      cases h
      obtain ⟨h1, h2⟩ := rd_rows sh _ p hp
      obtain ⟨h3, h4⟩ := rdSl_rows r s q hq
      simp only [rdRowsSl, rowsSlX, catL_eq, rowsSl]
      exact ⟨h1.append h3, by simp [h2, h4]⟩
    · cases h
theorem rdVr_rows : ∀ (l : List (Nat × Ty × Sh)) (k : Nat) (s : AS) (x : denVr l), rdVr l k s = some x → All2 (RowRel s.mem) (rdRowsVr l s) (rowsVrX l x) ∧ (rdRowsVr l s).length = rowsVr l
  | [], _, _, _, _ => ⟨trivial, rfl⟩
  | (b, t, sh) :: r, k, s, x, h => by
    simp only [rdVr] at h
    split at h
    · rename_i u v hm
      split at h
      · rename_i p hu hp
        split at h
        · rename_i q _ hq
          cases h
          obtain ⟨h1, h2⟩ := rd_rows sh _ p hp
          obtain ⟨h3, h4⟩ := rdVr_rows r _ s q hq
          simp only [rdRowsVr, rowsVrX, catL_eq, rowsVr, hm]
          exact ⟨h1.append h3, by simp [h2, h4]⟩
        · cases h
      · cases h
    · cases h
theorem mkSl_RV {C : Ctx} {e e' : Env} {s : AS} {a : Act} {U : Nat → Prop} {base : Nat} (hm : MR C e s.mem U) (hs : ∀ i, RV e (s.slots i) (a.tmps.getD i undef)) : ∀ (l : List (Nat × Sh)) (x : denSl l) (k : Nat), rdSl l s = some x → l.all (fun e => shBelow base e.2) = true → Ren e e' base k (rdRowsSl l s) →
    ∀ i, RV e' (mkSl l k x i) (a.tmps.getD i undef)
  | [], _, _, _, _, _, _ => trivial
  | (j, sh) :: r, x, k, h, hb, hr, i => by
    simp only [rdSl] at h
    split at h
    · rename_i p q hp hq
      cases h
      simp only [List.all_cons, Bool.and_eq_true] at hb
      simp only [rdRowsSl, catL_eq] at hr
      simp only [mkSl]
      cases hij : Nat.beq i j with
      | true =>
        have := Nat.eq_of_beq_eq_true hij; subst this
        exact rd_RV hm hp hb.1 hr.left (hs i)
      | false =>
        have h2 := hr.right
        rw [(rd_rows sh _ p hp).2] at h2
        exact mkSl_RV hm hs r q _ hq hb.2 h2 i
    · cases h
theorem mkVr_RM {C : Ctx} {e e' : Env} {s : AS} {U : Nat → Prop} {base : Nat} (hm : MR C e s.mem U) : ∀ (l : List (Nat × Ty × Sh)) (x : denVr l) (k : Nat), rdVr l k s = some x → l.all (fun e => Nat.blt e.1 base && shBelow base e.2.2) = true → Ren e e' base k (rdRowsVr l s) →
    ∀ b, mkVr l k x b = .none ∨ (b < base ∧ RM e' b (mkVr l k x b) ∧ ∃ t v, s.mem b = .var t v)
  | [], _, _, _, _, _, _ => .inl rfl
  | (j, t, sh) :: r, x, k, h, hb, hr, b => by
    simp only [rdVr] at h
    split at h
    · rename_i u v hmj
      split at h
      · rename_i p hu hp
        have hu := Ty.eq_of_eqb hu; subst hu
        split at h
        · rename_i q hh hq
          cases h
          simp only [List.all_cons, Bool.and_eq_true] at hb
          simp only [rdRowsVr, catL_eq, hmj] at hr
          simp only [mkVr]
          cases hij : Nat.beq b j with
          | true =>
            have := Nat.eq_of_beq_eq_true hij; subst this
            have hbl := hm.blocks b
            rw [hmj] at hbl
            obtain ⟨_, k', cs, el, h1, h2, h3⟩ := hbl
            have hlt : b < base := by simpa using hb.1.1
            exact .inr ⟨hlt, ⟨hh, k', cs, el, by rw [hr.old b hlt]; exact h1, by rw [hr.w]; exact h2, rd_RC hm sh v p k _ hp hb.1.2 hr.left h3⟩, u, v, hmj⟩
          | false =>
            have h2 := hr.right
            rw [(rd_rows sh _ p hp).2] at h2
            exact mkVr_RM hm r q _ hq hb.2 h2 b
        · cases h
      · cases h
    · cases h
theorem rdM_RM {C : Ctx} {e e' : Env} {s : AS} {U : Nat → Prop} {b : Nat} (hm : MR C e s.mem U) (hw : e'.w = e.w) (hi : e'.imm = e.imm) (hold : e'.ρ b = e.ρ b) (k v : Ty) (x : denM k v) (h : rdM k v (s.mem b) = some x) :
    RM e' b (mkM k v x) ∧ ((∃ k v l, s.mem b = .map k v l) ∨ (k = .unit ∧ ∃ xs : List v.den, s.mem b = .slab v xs)) := by
  have hbl := hm.blocks b
  have hmap : ∀ (k' v' : Ty) (l' : List (k'.den × v'.den)) (K : Ty) (p : List (K.den × v.den)), s.mem b = .map k' v' l' → castM k' v' K v l' = some p → RM e' b (.map K v p) := by
    intro k' v' l' K p hmb hp
    obtain ⟨e1, hx⟩ := cast?_some hp
    cases e1
    have hx : l' = p := hx
    subst hx
    rw [hmb] at hbl
    obtain ⟨k0, es, clock, h1, h2, h3, h4⟩ := hbl
    refine ⟨k0, es, clock, by rw [hold]; exact h1, by rw [hw]; exact h2, h3.mono fun x y hxy => ?_, h4⟩
    unfold RE at *
    rw [hw, hi]; exact hxy
  cases k with
  | unit =>
    simp only [rdM] at h
    split at h
    · rename_i t xs hmb
      obtain ⟨e1, hx⟩ := cast?_some h
      cases e1
      have hx : xs = x := hx
      subst hx
      refine ⟨?_, .inr ⟨rfl, xs, hmb⟩⟩
      rw [hmb] at hbl
      obtain ⟨g1, g2⟩ := hbl
      refine ⟨g1, ?_⟩
      rcases g2 with ⟨g3, g4⟩ | ⟨k', cap, cs, el, css, rest, g3, g4, g5, g6, g7, g8, g9⟩
      · exact .inl ⟨by rw [hold]; exact g3, g4⟩
      · exact .inr ⟨k', cap, cs, el, css, rest, by rw [hold]; exact g3, by rw [hw]; exact g4, g5, g6, g7, by rw [hw, hi]; exact g8, g9⟩
    · cases h
  | int k =>
    simp only [rdM] at h
    split at h
    · rename_i k' v' l' hmb
      exact ⟨hmap k' v' l' _ x hmb h, .inl ⟨_, _, _, hmb⟩⟩
    · cases h
  | bool =>
    simp only [rdM] at h
    split at h
    · rename_i k' v' l' hmb
      exact ⟨hmap k' v' l' _ x hmb h, .inl ⟨_, _, _, hmb⟩⟩
    · cases h
  | str =>
    simp only [rdM] at h
    split at h
    · rename_i k' v' l' hmb
      exact ⟨hmap k' v' l' _ x hmb h, .inl ⟨_, _, _, hmb⟩⟩
    · cases h
  | _ => simp [rdM] at h
theorem mkMp_RM {C : Ctx} {e e' : Env} {s : AS} {U : Nat → Prop} {base : Nat} (hm : MR C e s.mem U) (hw : e'.w = e.w) (hi : e'.imm = e.imm) (hold : ∀ b, b < base → e'.ρ b = e.ρ b) : ∀ (l : List (Nat × Ty × Ty)) (x : denMp l), rdMp l s = some x → l.all (fun e => Nat.blt e.1 base) = true →
    ∀ b, mkMp l x b = .none ∨ (b < base ∧ RM e' b (mkMp l x b) ∧ (((∃ k v l, s.mem b = .map k v l) ∨ (∃ t xs, s.mem b = .slab t xs)) ∧ ∃ (i : Nat) (t : Ty), (fixRows l)[i]? = some (t, some b)))
  | [], _, _, _, _ => .inl rfl
  | (j, k, v) :: r, x, h, hb, b => by
    simp only [rdMp] at h
    split at h
    · rename_i p q hp hq
      cases h
      simp only [List.all_cons, Bool.and_eq_true] at hb
      simp only [mkMp]
      cases hij : Nat.beq b j with
      | true =>
        have := Nat.eq_of_beq_eq_true hij; subst this
        have hlt : b < base := by simpa using hb.1
        obtain ⟨g1, g2⟩ := rdM_RM hm hw hi (hold b hlt) k v p hp
        refine .inr ⟨hlt, g1, ?_⟩
        rcases g2 with g2 | ⟨rfl, xs, g2⟩
        · exact ⟨.inl g2, 0, v, rfl⟩
        · exact ⟨.inr ⟨_, _, g2⟩, 0, v, rfl⟩
      | false =>
        rcases mkMp_RM hm hw hi hold r q hq hb.2 b with g | ⟨g1, g2, g3⟩
        · exact .inl g
        · refine .inr ⟨g1, g2, ?_⟩
          obtain ⟨g3, i, t, g4⟩ := g3
          exact ⟨g3, i + 1, t, by simpa [fixRows] using g4⟩
    · cases h
theorem nthB_get : ∀ (l : List AB) (i : Nat), nthB l i = .none ∨ l[i]? = some (nthB l i)
  | [], _ => .inl rfl
  | _ :: _, 0 => .inr rfl
  | _ :: r, i + 1 => nthB_get r i
theorem inNames_iff : ∀ {l : List (Ty × Option Nat)} {b : Nat} {i : Nat} {t : Ty}, l[i]? = some (t, some b) → inNames l b = true
  | [], _, _, _, h => by simp at h
  | (u, o) :: r, b, 0, t, h => by
    simp at h; obtain ⟨_, rfl⟩ := h
    simp [inNames]
  | (u, some a) :: r, b, i + 1, t, h => by
    simp only [inNames, Bool.or_eq_true]
    exact .inr (inNames_iff (i := i) (by simpa using h))
  | (u, none) :: r, b, i + 1, t, h => by
    simp only [inNames]
    exact inNames_iff (i := i) (by simpa using h)
theorem nodupN_get : ∀ {l : List (Ty × Option Nat)} {i j : Nat} {b : Nat} {t u : Ty}, nodupN l = true → l[i]? = some (t, some b) → l[j]? = some (u, some b) → i = j
  | [], _, _, _, _, _, _, h, _ => by simp at h
  | (v, o) :: r, 0, 0, _, _, _, _, _, _ => rfl
  | (v, o) :: r, 0, j + 1, b, t, u, hn, h1, h2 => by
    simp at h1; obtain ⟨_, rfl⟩ := h1
    simp [nodupN] at hn
    rw [inNames_iff (i := j) (by simpa using h2)] at hn
    exact absurd hn.1 (by simp)
  | (v, o) :: r, i + 1, 0, b, t, u, hn, h1, h2 => by
    simp at h2; obtain ⟨_, rfl⟩ := h2
    simp [nodupN] at hn
    rw [inNames_iff (i := i) (by simpa using h1)] at hn
    exact absurd hn.1 (by simp)
  | (v, o) :: r, i + 1, j + 1, b, t, u, hn, h1, h2 => by
    have hn' : nodupN r = true := by
      cases o <;> simp [nodupN] at hn
      · exact hn
      · exact hn.2
    rw [nodupN_get (i := i) (j := j) hn' (by simpa using h1) (by simpa using h2)]

/-- A state that holds as much: the same frame and memory fit it, under other names for the rows. -/
theorem refit {C : Ctx} {n : Nat} {U0 Ue : Nat → Prop} {e0 e : Env} {m0 : Mem} {s : AS} {a : Act} {D : SD} {base : Nat} {x : D.den} (h : Fit C n Ue e s a) (hUe : ∀ b, Ue b → U0 b ∨ base ≤ b) (hdom : ∀ b bt, e0.ρ b = some bt → U0 b)
    (hfree : free U0 base (base + D.rows)) (hx : Ext e0 e) (hf : Frm e0 m0 e s.mem) (hr : rdD D base s = some x) (nx : Nat) :
    ∃ e', e'.w = e.w ∧ Ext e0 e' ∧ Frm e0 m0 e' (mkD D base nx x).mem ∧ Fit C n (taken U0 base (base + D.rows)) e' (mkD D base nx x) a := by
  unfold rdD at hr
  split at hr
  · rename_i x1 x2 x3 hb h1 h2 h3
    cases hr
    simp only [Bool.and_eq_true, belowSD] at hb
    obtain ⟨⟨⟨hb1, hb2⟩, hb3⟩, hnd⟩ := hb
    rw [catL_eq, catL_eq] at hnd
    obtain ⟨a1, l1⟩ := rdSl_rows D.sl s x1 h1
    obtain ⟨a2, l2⟩ := rdVr_rows D.vr _ s x2 h2
    generalize hrows : rdRowsSl D.sl s ++ rdRowsVr D.vr s = rows at *
    have hrl : rows.length = D.rows := by rw [← hrows]; simp [SD.rows, l1, l2]
    have hrel : All2 (RowRel s.mem) rows (rowsSlX D.sl x1 ++ rowsVrX D.vr x2) := by rw [← hrows]; exact a1.append a2
    -- the names
    let ρ' : Nat → Option BT := fun b => if base ≤ b ∧ b < base + D.rows then (match rows[b - base]? with | some (_, some c) => e.ρ c | some (t, none) => some (.nilslab t) | none => none)
      else open Classical in if b < base ∨ e0.ρ b ≠ none then e.ρ b else none
    let e' : Env := ⟨ρ', e.w, e.imm⟩
    have hρrow : ∀ (i : Nat) (t : Ty) (o : Option Nat), rows[i]? = some (t, o) → ρ' (base + i) = match o with | some b => e.ρ b | none => some (.nilslab t) := by
      intro i t o hi
      have hlt : i < rows.length := (List.getElem?_eq_some_iff.1 hi).1
      show (if _ then _ else _) = _
      rw [if_pos (by omega), Nat.add_sub_cancel_left, hi]
      cases o <;> rfl
    have hρold : ∀ b, b < base → ρ' b = e.ρ b := by
      intro b hb
      show (if _ then _ else _) = _
      rw [if_neg (by omega), if_pos (.inl hb)]
    have hren : Ren e e' base base rows := ⟨rfl, rfl, hρold, hρrow⟩
    have hrenS : Ren e e' base base (rdRowsSl D.sl s) := by rw [← hrows] at hren; exact hren.left
    have hrenV : Ren e e' base (base + rowsSl D.sl) (rdRowsVr D.vr s) := by rw [← hrows] at hren; have := hren.right; rwa [l1] at this
    have hmem : ∀ b, (mkD D base nx (x1, x2, x3)).mem b = mkMem D base (x1, x2, x3) b := fun _ => rfl
    -- what lies where
    have hwhat : ∀ b, mkMem D base (x1, x2, x3) b = .none ∨
        (base ≤ b ∧ ∃ t o, rows[b - base]? = some (t, o) ∧ RowRel s.mem (t, o) (mkMem D base (x1, x2, x3) b)) ∨
        (b < base ∧ RM e' b (mkMem D base (x1, x2, x3) b) ∧ ((∃ t v, s.mem b = .var t v) ∨ (((∃ k v l, s.mem b = .map k v l) ∨ (∃ t xs, s.mem b = .slab t xs)) ∧ ∃ (i : Nat) (t : Ty), (fixRows D.mp)[i]? = some (t, some b)))) := by
      intro b
      unfold mkMem
      cases hbb : Nat.ble base b with
      | true =>
        have hle := Nat.le_of_ble_eq_true hbb
        simp only [catL_eq]
        rcases nthB_get (rowsSlX D.sl x1 ++ rowsVrX D.vr x2) (b - base) with hn | hn
        · exact .inl hn
        · refine .inr (.inl ⟨hle, ?_⟩)
          have hlt : b - base < rows.length := by rw [hrel.length]; exact (List.getElem?_eq_some_iff.1 hn).1
          obtain ⟨y, hy, hr⟩ := hrel.get (b - base) _ (List.getElem?_eq_getElem hlt)
          rw [hn] at hy; cases hy
          exact ⟨_, _, List.getElem?_eq_getElem hlt, hr⟩
      | false =>
        simp only
        rcases mkVr_RM h.mem D.vr x2 _ h2 hb2 hrenV b with hv | ⟨hv1, hv2, hv3⟩
        · rw [hv]
          simp only
          rcases mkMp_RM h.mem (e' := e') rfl rfl hρold D.mp x3 h3 hb3 b with hp | ⟨hp1, hp2, hp3⟩
          · exact .inl hp
          · exact .inr (.inr ⟨hp1, hp2, .inr hp3⟩)
        · refine .inr (.inr ⟨hv1, ?_, .inl hv3⟩)
          cases hmk : mkVr D.vr (base + rowsSl D.sl) x2 b with
          | none =>
            simp only
            rcases mkMp_RM h.mem (e' := e') rfl rfl hρold D.mp x3 h3 hb3 b with hp | ⟨hp1, hp2, hp3⟩
            · rw [hp]; trivial
            · exact hp2
          | _ => simp only; rw [hmk] at hv2; exact hv2
    -- where a live block comes from
    have hsrc : ∀ b bt k, live (mkMem D base (x1, x2, x3) b) → ρ' b = some bt → bt.base = some k → ∃ c, live (s.mem c) ∧ e.ρ c = some bt ∧
        ((base ≤ b ∧ (∃ t, rows[b - base]? = some (t, some c)) ∧ ((∃ t xs, s.mem c = .slab t xs) ∨ ∃ k v l, s.mem c = .map k v l)) ∨ (b = c ∧ b < base ∧ ((∃ t v, s.mem b = .var t v) ∨ (((∃ k v l, s.mem b = .map k v l) ∨ (∃ t xs, s.mem b = .slab t xs)) ∧ ∃ (i : Nat) (t : Ty), (fixRows D.mp)[i]? = some (t, some b))))) := by
      intro b bt k hl hb hk
      rcases hwhat b with hn | ⟨hle, t, o, hro, hrr⟩ | ⟨hlt, _, hvm⟩
      · rw [hn] at hl; exact hl.elim
      · have hb' := hρrow (b - base) t o hro
        rw [show base + (b - base) = b by omega] at hb'
        cases o with
        | none => rw [hb'] at hb; cases hb; simp [BT.base] at hk
        | some c =>
          rcases hrr with ⟨xs, hm1, _⟩ | ⟨kt, vt, l, hm1, _⟩
          · exact ⟨c, by rw [hm1]; trivial, by rw [hb'] at hb; exact hb, .inl ⟨hle, ⟨t, hro⟩, .inl ⟨t, xs, hm1⟩⟩⟩
          · exact ⟨c, by rw [hm1]; trivial, by rw [hb'] at hb; exact hb, .inl ⟨hle, ⟨t, hro⟩, .inr ⟨kt, vt, l, hm1⟩⟩⟩
      · refine ⟨b, ?_, by rw [hρold b hlt] at hb; exact hb, .inr ⟨rfl, hlt, hvm⟩⟩
        rcases hvm with ⟨t, v, hv⟩ | ⟨⟨k, v, l, hv⟩ | ⟨t, xs, hv⟩, _⟩ <;> (rw [hv]; trivial)
    have hown : ∀ k, owns e' (mkMem D base (x1, x2, x3)) k → owns e s.mem k := by
      rintro k ⟨b, bt, hl, hb, hk⟩
      obtain ⟨c, g1, g2, _⟩ := hsrc b bt k hl hb hk
      exact ⟨c, bt, g1, g2, hk⟩
    have hExt : Ext e0 e' := by
      refine ⟨fun b bt hb => ?_, hx.imm⟩
      have hu := hdom b bt hb
      show (if _ then _ else _) = _
      rw [if_neg (fun hlt => hfree b hlt.1 hlt.2 hu), if_pos (.inr (by rw [hb]; simp))]
      exact hx.ρ b bt hb
    refine ⟨e', rfl, hExt, ⟨hf.heap, hf.size, fun j hj => hf.own j (hown j hj), hf.imm⟩, h.defers, h.size, mkSl_RV h.mem h.slots D.sl x1 base h1 hb1 hrenS, ?_⟩
    refine ⟨h.mem.below, ?_, fun k hk => h.mem.own k (hown k hk), ?_, h.mem.immLt, h.mem.immI, ?_⟩
    · intro b
      rw [hmem]
      rcases hwhat b with hn | ⟨hle, t, o, hro, hrr⟩ | ⟨_, hrm, _⟩
      · rw [hn]; trivial
      · have hb' := hρrow (b - base) t o hro
        rw [show base + (b - base) = b by omega] at hb'
        cases o with
        | none =>
          have : mkMem D base (x1, x2, x3) b = .slab t [] := hrr
          rw [this]
          exact ⟨by simp, .inl ⟨hb', rfl⟩⟩
        | some c =>
          have hbl := h.mem.blocks c
          rcases hrr with ⟨xs, hm1, hm2⟩ | ⟨kt, vt, l, hm1, hm2⟩
          · rw [hm2]
            rw [hm1] at hbl
            obtain ⟨g1, g2⟩ := hbl
            refine ⟨g1, ?_⟩
            rcases g2 with ⟨g3, g4⟩ | ⟨k', cap, cs, el, css, rest, g3, g4⟩
            · exact .inl ⟨by rw [show e'.ρ b = ρ' b from rfl, hb']; exact g3, g4⟩
            · exact .inr ⟨k', cap, cs, el, css, rest, by rw [show e'.ρ b = ρ' b from rfl, hb']; exact g3, g4⟩
          · rw [hm2]
            rw [hm1] at hbl
            obtain ⟨k0, es, clock, g1, g2⟩ := hbl
            exact ⟨k0, es, clock, by rw [show e'.ρ b = ρ' b from rfl, hb']; exact g1, g2⟩
      · exact hrm
    · intro b b' bt bt' k hl hl' hb hb' hk hk'
      obtain ⟨c, g1, g2, g3⟩ := hsrc b bt k hl hb hk
      obtain ⟨c', g1', g2', g3'⟩ := hsrc b' bt' k hl' hb' hk'
      have hcc := h.mem.inj c c' bt bt' k g1 g1' g2 g2' hk hk'
      subst hcc
      have hmix : ∀ (i : Nat) (t : Ty), rows[i]? = some (t, some c) → ((∃ t xs, s.mem c = .slab t xs) ∨ ∃ k v l, s.mem c = .map k v l) → ¬ ((∃ t v, s.mem c = .var t v) ∨ (((∃ k v l, s.mem c = .map k v l) ∨ (∃ t xs, s.mem c = .slab t xs)) ∧ ∃ (i : Nat) (t : Ty), (fixRows D.mp)[i]? = some (t, some c))) := by
        rintro i t q2 q3 (⟨_, _, r3⟩ | ⟨_, j, t', r3⟩)
        · rcases q3 with ⟨_, _, q3⟩ | ⟨_, _, _, q3⟩ <;> (rw [q3] at r3; cases r3)
        · have hi := (List.getElem?_eq_some_iff.1 q2).1
          have h1 : (rows ++ fixRows D.mp)[i]? = some (t, some c) := by rw [List.getElem?_append_left hi]; exact q2
          have h2 : (rows ++ fixRows D.mp)[rows.length + j]? = some (t', some c) := by rw [List.getElem?_append_right (by omega), Nat.add_sub_cancel_left]; exact r3
          have := nodupN_get hnd h1 h2
          omega
      rcases g3 with ⟨q1, ⟨t, q2⟩, q3⟩ | ⟨q1, q2, q3⟩
      · rcases g3' with ⟨r1, ⟨u, r2⟩, _⟩ | ⟨r1, r2, r3⟩
        · have h1 : (rows ++ fixRows D.mp)[b - base]? = some (t, some c) := by rw [List.getElem?_append_left (List.getElem?_eq_some_iff.1 q2).1]; exact q2
          have h2 : (rows ++ fixRows D.mp)[b' - base]? = some (u, some c) := by rw [List.getElem?_append_left (List.getElem?_eq_some_iff.1 r2).1]; exact r2
          have := nodupN_get hnd h1 h2
          omega
        · subst r1
          exact absurd r3 (hmix _ _ q2 q3)
      · rcases g3' with ⟨r1, ⟨u, r2⟩, r3⟩ | ⟨r1, _⟩
        · subst q1
          exact absurd q3 (hmix _ _ r2 r3)
        · rw [q1, r1]
    · intro b bt hb
      have hb : ρ' b = some bt := hb
      by_cases hlt : base ≤ b ∧ b < base + D.rows
      · exact .inr hlt
      · left
        have : (open Classical in if b < base ∨ e0.ρ b ≠ none then e.ρ b else none) = some bt := by
          have h2 : ρ' b = (open Classical in if b < base ∨ e0.ρ b ≠ none then e.ρ b else none) := if_neg hlt
          rw [h2] at hb; exact hb
        split at this
        · rename_i hc
          rcases hc with hc | hc
          · exact (hUe b (h.mem.nx b bt this)).elim id (fun h => by omega)
          · cases h0 : e0.ρ b with
            | none => exact absurd h0 hc
            | some bt0 => exact hdom b bt0 h0
        · cases this
  · cases hr

/-! ### Rows let go -/
def FrzOK (f : Mem → Mem) : Prop := ∀ {C : Ctx} {U : Nat → Prop} {e : Env} {m : Mem}, MR C e m U → ∃ im, MR C { e with imm := im } (f m) U ∧ Ext e { e with imm := im } ∧ Frm e m { e with imm := im } (f m)
theorem FrzOK.id : FrzOK fun m => m := fun {_ _ e m} h => ⟨e.imm, h, Ext.refl e, Frm.refl e m⟩
theorem FrzOK.trans {f g : Mem → Mem} (hf : FrzOK f) (hg : FrzOK g) : FrzOK fun m => g (f m) := by
  intro C U e m h
  obtain ⟨im1, h1, h2, h3⟩ := hf h
  obtain ⟨im2, h4, h5, h6⟩ := hg h1
  exact ⟨im2, h4, h2.trans h5, h3.trans h6⟩
theorem frzM_ok : ∀ (sh : Sh) (v : AV), FrzOK (frzM sh v) := by
  intro sh
  induction sh with
  | hole t =>
    intro v C U e m h
    obtain ⟨im, h1, h2, _, h4⟩ := kill_MR v h
    exact ⟨im, h1, h2, Frm.kill (fun j hj => kill_owns (v := v) hj) h4⟩
  | agv s l ih =>
    intro v
    cases v <;> first
      | exact ih _
      | exact FrzOK.id
  | cons a l iha ihl =>
    intro v
    cases v <;> first
      | exact FrzOK.trans (iha _) (ihl _)
      | exact FrzOK.id
  | _ => intro v; exact FrzOK.id
theorem frzSl_ok (f : Nat → AV) : ∀ l : List (Nat × Sh), FrzOK (frzSl l f)
  | [] => FrzOK.id
  | (i, sh) :: r => FrzOK.trans (frzM_ok sh (f i)) (frzSl_ok f r)
theorem frzVr_ok : ∀ l : List (Nat × Ty × Sh), FrzOK (frzVr l)
  | [] => FrzOK.id
  | (b, _, sh) :: r => by
    refine FrzOK.trans (f := fun m => match m b with | .var _ v => frzM sh v m | _ => m) ?_ (frzVr_ok r)
    intro C U e m h
    dsimp only
    cases hm : m b with
    | var u v => exact frzM_ok sh v h
    | _ => exact FrzOK.id h
theorem frzD_ok (D : SD) {C : Ctx} {n : Nat} {U : Nat → Prop} {e : Env} {s : AS} {a : Act} (h : Fit C n U e s a) : ∃ e', e'.w = e.w ∧ Ext e e' ∧ Frm e s.mem e' (frzD D s).mem ∧ Fit C n U e' (frzD D s) a := by
  obtain ⟨im, h1, h2, h3⟩ := (FrzOK.trans (frzSl_ok s.slots D.sl) (frzVr_ok D.vr)) h.mem
  exact ⟨{ e with imm := im }, rfl, h2, h3, h.defers, h.size, fun i => (h.slots i).ext h2, h1⟩
theorem refitF {C : Ctx} {n : Nat} {U0 Ue : Nat → Prop} {e0 e : Env} {m0 : Mem} {s : AS} {a : Act} {D : SD} {base : Nat} {x : D.den} (h : Fit C n Ue e s a) (hUe : ∀ b, Ue b → U0 b ∨ base ≤ b) (hdom : ∀ b bt, e0.ρ b = some bt → U0 b)
    (hfree : free U0 base (base + D.rows)) (hx : Ext e0 e) (hf : Frm e0 m0 e s.mem) (hr : rdF D base s = some x) (nx : Nat) :
    ∃ e', e'.w = e.w ∧ Ext e0 e' ∧ Frm e0 m0 e' (mkD D base nx x).mem ∧ Fit C n (taken U0 base (base + D.rows)) e' (mkD D base nx x) a := by
  obtain ⟨e1, h1, h2, h3, h4⟩ := frzD_ok D h
  obtain ⟨e2, g1, g2, g3, g4⟩ := refit h4 hUe hdom hfree (hx.trans h2) (hf.trans h3) hr nx
  exact ⟨e2, g1.trans h1, g2, g3, g4⟩

/-! ### Ways out -/
theorem contE_some {R : Type} {y : R} {K : AExit → AS → Option R} {base nx : Nat} : ∀ (l : List (XK × SD)) (z : denE l), contE l base nx z K = some y → ∃ r s, K r s = some y ∧ r ≠ .normal ∧ s.nx = nx ∧
    ∀ e s', rdE l base e s' = some z → e = r ∧ ∃ D, ∃ x : SD.den D, (∃ k, (k, D) ∈ l) ∧ s = mkD D base nx x ∧ rdF D base s' = some x
  | [], z, h => by simp [contE] at h
  | [(k, D)], z, h => by
    refine ⟨_, _, h, by cases k <;> simp [XK.to], rfl, fun e s' hr => ?_⟩
    simp only [rdE] at hr
    split at hr
    · rename_i hk
      refine ⟨?_, D, z, ⟨k, by simp⟩, rfl, hr⟩
      cases k <;> cases e <;> simp [XK.is, XK.to] at *
      exact hk.symm
    · cases hr
  | (k, D) :: e0 :: r, z, h => by
    cases z with
    | inl x =>
      simp only [contE, Sum.elim_inl] at h
      refine ⟨_, _, h, by cases k <;> simp [XK.to], rfl, fun e s' hr => ?_⟩
      simp only [rdE] at hr
      split at hr
      · rename_i x' hx
        cases hr
        split at hx
        · rename_i hk
          refine ⟨?_, D, x, ⟨k, by simp⟩, rfl, hx⟩
          cases k <;> cases e <;> simp [XK.is, XK.to] at *
          exact hk.symm
        · cases hx
      · split at hr <;> cases hr
    | inr z =>
      simp only [contE, Sum.elim_inr] at h
      obtain ⟨r1, s1, h1, h2, h2', h3⟩ := contE_some (e0 :: r) z h
      refine ⟨r1, s1, h1, h2, h2', fun e s' hr => ?_⟩
      simp only [rdE] at hr
      split at hr
      · cases hr
      · split at hr
        · rename_i z' hz
          cases hr
          obtain ⟨g1, D', x, ⟨k', g2⟩, g3⟩ := h3 e s' hz
          exact ⟨g1, D', x, ⟨k', by simp [g2]⟩, g3⟩
        · cases hr
theorem least {p : Nat → Prop} (h : ∃ n, p n) : ∃ n, p n ∧ ∀ m, p m → n ≤ m := by
  obtain ⟨n, hn⟩ := h
  induction n using Nat.strongRecOn with
  | _ n ih =>
    by_cases hm : ∃ m, m < n ∧ p m
    · obtain ⟨m, h1, h2⟩ := hm; exact ih m h1 h2
    · exact ⟨n, hn, fun m hm' => Nat.le_of_not_lt fun h => hm ⟨m, h, hm'⟩⟩
/-! ### What a loop doesn't touch -/
theorem dropS_sub (l : Nat → Bool) (s : AS) (b : Nat) : (dropS l s).mem b = s.mem b ∨ (dropS l s).mem b = .none := by
  show (match l b with | true => AB.none | false => s.mem b) = _ ∨ (match l b with | true => AB.none | false => s.mem b) = _
  cases l b <;> simp
theorem MR.keep {C : Ctx} {e e' : Env} {s s' : AS} {U U' : Nat → Prop} (l : Nat → Bool) (h : MR C e s.mem U) (hx : Ext e e') (h' : MR C e' s'.mem U') (hf : Frm e (dropS l s).mem e' s'.mem) :
    MR C e' (keepS l s.mem s').mem U' ∧ Frm e s.mem e' (keepS l s.mem s').mem := by
  have hin : ∀ b, l b = true → (keepS l s.mem s').mem b = s.mem b := fun b hb => by simp [keepS, hb]
  have hout : ∀ b, l b = false → (keepS l s.mem s').mem b = s'.mem b := fun b hb => by simp [keepS, hb]
  have hcase : ∀ b, l b = true ∨ l b = false := fun b => by cases l b <;> simp
  have hdrop : ∀ b, l b = true → (dropS l s).mem b = .none := fun b hb => by simp [dropS, hb]
  have hnot : ∀ b bt k, l b = true → live (s.mem b) → e.ρ b = some bt → bt.base = some k → ¬ owns e (dropS l s).mem k := by
    rintro b bt k hb hl h1 h2 ⟨b2, bt2, g2, g3, g4⟩
    rcases hcase b2 with hb2 | hb2
    · rw [hdrop b2 hb2] at g2; exact g2
    · have g2' : live (s.mem b2) := by
        rcases dropS_sub l s b2 with h0 | h0
        · rwa [h0] at g2
        · rw [h0] at g2; exact g2.elim
      have := h.inj b b2 bt bt2 k hl g2' h1 g3 h2 g4
      subst this
      rw [hb] at hb2; cases hb2
  have hsame : ∀ b bt, live (s.mem b) → e'.ρ b = some bt → e.ρ b = some bt := by
    intro b bt hl hb
    obtain ⟨bt0, h0⟩ := (h.blocks b).some hl
    have := hx.ρ b bt0 h0
    rw [hb] at this; cases this
    exact h0
  have hsub : ∀ j, owns e (dropS l s).mem j → owns e s.mem j := by
    rintro j ⟨b, bt, hl, h1, h2⟩
    rcases dropS_sub l s b with h0 | h0
    · rw [h0] at hl; exact ⟨b, bt, hl, h1, h2⟩
    · rw [h0] at hl; exact hl.elim
  have hown1 : ∀ j, owns e' (keepS l s.mem s').mem j → owns e' s'.mem j ∨ (owns e s.mem j ∧ ¬ owns e (dropS l s).mem j) := by
    rintro j ⟨b, bt, hl, h1, h2⟩
    rcases hcase b with hb | hb
    · rw [hin b hb] at hl
      have h1 := hsame b bt hl h1
      exact .inr ⟨⟨b, bt, hl, h1, h2⟩, hnot b bt j hb hl h1 h2⟩
    · rw [hout b hb] at hl; exact .inl ⟨b, bt, hl, h1, h2⟩
  refine ⟨⟨h'.below, ?_, ?_, ?_, h'.immLt, h'.immI, h'.nx⟩, ?_, hf.size, ?_, ?_⟩
  · intro b
    rcases hcase b with hb | hb
    · rw [hin b hb]
      refine (h.blocks b).frame hx fun bt k h1 h2 hl => ?_
      exact hf.heap k (h.own k ⟨b, bt, hl, h1, h2⟩).1 (hnot b bt k hb hl h1 h2)
    · rw [hout b hb]; exact h'.blocks b
  · intro k hk
    rcases hown1 k hk with ho | ⟨ho, hn⟩
    · exact h'.own k ho
    · obtain ⟨o1, o2, o3⟩ := h.own k ho
      refine ⟨Nat.lt_of_lt_of_le o1 hf.size, o2, fun hi => ?_⟩
      rcases hf.imm k hi with hi | hi | hi
      · exact o3 hi
      · exact hn hi
      · omega
  · intro b b2 bt bt2 k hl hl2 h1 h2 h3 h4
    have mixed : ∀ b b2 bt bt2, l b = false → l b2 = true → live ((keepS l s.mem s').mem b) → live ((keepS l s.mem s').mem b2) → e'.ρ b = some bt → e'.ρ b2 = some bt2 → bt.base = some k → bt2.base = some k → False := by
      intro b b2 bt bt2 hb hb2 hl hl2 h1 h2 h3 h4
      rw [hout b hb] at hl
      rw [hin b2 hb2] at hl2
      have h2 := hsame b2 bt2 hl2 h2
      rcases hf.own k ⟨b, bt, hl, h1, h3⟩ with ho | ho
      · exact hnot b2 bt2 k hb2 hl2 h2 h4 ho
      · have := (h.own k ⟨b2, bt2, hl2, h2, h4⟩).1; omega
    rcases hcase b with hb | hb
    · rcases hcase b2 with hb2 | hb2
      · rw [hin b hb] at hl
        rw [hin b2 hb2] at hl2
        exact h.inj b b2 bt bt2 k hl hl2 (hsame b bt hl h1) (hsame b2 bt2 hl2 h2) h3 h4
      · exact (mixed b2 b bt2 bt hb2 hb hl2 hl h2 h1 h4 h3).elim
    · rcases hcase b2 with hb2 | hb2
      · exact (mixed b b2 bt bt2 hb hb2 hl hl2 h1 h2 h3 h4).elim
      · rw [hout b hb] at hl
        rw [hout b2 hb2] at hl2
        exact h'.inj b b2 bt bt2 k hl hl2 h1 h2 h3 h4
  · intro j hj hn
    exact hf.heap j hj fun ho => hn (hsub j ho)
  · intro j hj
    rcases hown1 j hj with ho | ⟨ho, _⟩
    · exact (hf.own j ho).imp (hsub j) id
    · exact .inl ho
  · intro j hj
    rcases hf.imm j hj with hi | hi | hi
    · exact .inl hi
    · exact .inr (.inl (hsub j hi))
    · exact .inr (.inr hi)
theorem Fit.drop {C : Ctx} {n : Nat} {U : Nat → Prop} {e : Env} {s : AS} {a : Act} (h : Fit C n U e s a) (l : Nat → Bool) : Fit C n U e (dropS l s) a := by
  refine ⟨h.defers, h.size, h.slots, ?_⟩
  have hl : ∀ b, live ((dropS l s).mem b) → live (s.mem b) := fun b hb => by
    rcases dropS_sub l s b with h0 | h0
    · rwa [h0] at hb
    · rw [h0] at hb; exact hb.elim
  refine ⟨h.mem.below, fun b => ?_, fun k hk => ?_, fun b b' b1 b2 k h1 h2 => h.mem.inj b b' b1 b2 k (hl b h1) (hl b' h2), h.mem.immLt, h.mem.immI, h.mem.nx⟩
  · rcases dropS_sub l s b with hb | hb
    · rw [hb]; exact h.mem.blocks b
    · rw [hb]; trivial
  · obtain ⟨b, bt, g1, g2, g3⟩ := hk
    exact h.mem.own k ⟨b, bt, hl b g1, g2, g3⟩
theorem Fit.keep {C : Ctx} {n : Nat} {U U' : Nat → Prop} {e e' : Env} {s s' : AS} {a a' : Act} (l : Nat → Bool) (h : Fit C n U e s a) (hx : Ext e e') (h' : Fit C n U' e' s' a') (hf : Frm e (dropS l s).mem e' s'.mem) :
    Fit C n U' e' (keepS l s.mem s') a' ∧ Frm e s.mem e' (keepS l s.mem s').mem := by
  obtain ⟨h1, h2⟩ := MR.keep l h.mem hx h'.mem hf
  exact ⟨⟨h'.defers, h'.size, h'.slots, h1⟩, h2⟩

open Classical in
theorem lpH_ev {P : Program} {C : Ctx} {n : Nat} {L : List (Nat × LD)} {lid : Nat} {body : Code} {ev : (R : Type) → AS → (AExit → AS → Option R) → Option R} (hbody : EvOK P C n body ev) : EvOK P C n (.loop body) (lpH L lid ev) := by
  intro R s K y h
  unfold lpH at h
  split at h
  · cases h
  · rename_i d hd
    split at h
    · rename_i x hroom hx
      simp only [roomy, Bool.and_eq_true, List.all_eq_true] at hroom
      obtain ⟨hroom1, hroom2⟩ := hroom
      have hroom1 := Nat.le_of_ble_eq_true hroom1
      cases hl : lfp (fun x => ev (d.hd.den ⊕ denE d.outs) (mkD d.hd s.nx (s.nx + d.hd.rows) x) (roundK d s.nx)) x with
      | none => rw [hl] at h; cases h
      | some z =>
        rw [hl] at h
        simp only [Option.bind_some] at h
        obtain ⟨n0, hn0⟩ := lfp_some.1 hl
        obtain ⟨r, s1, hk, hrn, hnx, hout⟩ := contE_some d.outs z h
        refine ⟨r, keepS (kept d.fr s.nx) (frzD d.hd s).mem s1, ⟨?_, ?_⟩, hk⟩
        · show s.nx ≤ s1.nx; omega
        · intro U e9 a Q hu hf9 hq9
          have hu : free U s.nx s1.nx := hu
          obtain ⟨e, hw9, hx9, hfr9, hf8⟩ := frzD_ok d.hd hf9
          have hf := hf8.drop (kept d.fr s.nx)
          have hq : ∀ e' a', Fit C n (taken U s.nx s1.nx) e' s1 a' → Ext e e' → Frm e (dropS (kept d.fr s.nx) (frzD d.hd s)).mem e' s1.mem → Q r.toExit a' e'.w := fun e' a' g1 g2 g3 => by
            obtain ⟨k1, k2⟩ := hf8.keep (kept d.fr s.nx) g2 g1 g3
            exact hq9 e' a' k1 (hx9.trans g2) (hfr9.trans k2)
          rw [← hw9]
          generalize hfdef : (fun x => ev (d.hd.den ⊕ denE d.outs) (mkD d.hd s.nx (s.nx + d.hd.rows) x) (roundK d s.nx)) = f at *
          have hdom : ∀ b bt, e.ρ b = some bt → U b := hf.mem.nx
          have hfreeH : free U s.nx (s.nx + d.hd.rows) := free_left hu (by omega)
          let J : Nat → Act → World → Prop := fun k a' w' => ∃ x' e', iter f k x' = some z ∧ e'.w = w' ∧ Ext e e' ∧ Frm e (dropS (kept d.fr s.nx) (frzD d.hd s)).mem e' (mkD d.hd s.nx (s.nx + d.hd.rows) x').mem ∧ Fit C n (taken U s.nx (s.nx + d.hd.rows)) e' (mkD d.hd s.nx (s.nx + d.hd.rows) x') a'
          let μ : Act → World → Nat := fun a' w' => if h : ∃ k, J k a' w' then (least h).choose else 0
          have hμ : ∀ {k a' w'}, J k a' w' → μ a' w' ≤ k := by
            intro k a' w' hj
            have hex : ∃ k, J k a' w' := ⟨k, hj⟩
            show (if h : _ then _ else _) ≤ k
            rw [dif_pos hex]
            exact (least hex).choose_spec.2 _ hj
          have hμ2 : ∀ {a' w'}, (∃ k, J k a' w') → J (μ a' w') a' w' := by
            intro a' w' hex
            show J (if h : _ then _ else _) a' w'
            rw [dif_pos hex]
            exact (least hex).choose_spec.1
          refine wp_loop (fun a' w' => ∃ k, J k a' w') μ ?_ ?_
          · obtain ⟨e', g1, g2, g3, g4⟩ := refit hf (fun b hb => .inl hb) hdom hfreeH (Ext.refl e) (Frm.refl e _) hx (s.nx + d.hd.rows)
            exact ⟨n0, x, e', hn0, g1, g2, g3, g4⟩
          · intro a' w' hex
            have hj := hμ2 hex
            generalize hk' : μ a' w' = k at hj
            obtain ⟨x', e', hit, rfl, hx1, hfr1, hfit⟩ := hj
            cases k with
            | zero => simp [iter] at hit
            | succ k =>
              simp only [iter] at hit
              cases hfx : f x' with
              | none => rw [hfx] at hit; cases hit
              | some res =>
                rw [hfx] at hit
                have hev : ev (d.hd.den ⊕ denE d.outs) (mkD d.hd s.nx (s.nx + d.hd.rows) x') (roundK d s.nx) = some res := by rw [← hfx, ← hfdef]
                obtain ⟨r', s', ht, hrk⟩ := hbody _ _ _ _ hev
                unfold roundK at hrk
                split at hrk
                · cases hrk
                · rename_i hble
                  have hble := Nat.le_of_ble_eq_true hble
                  have hle1 : s.nx + d.hd.rows ≤ s'.nx := ht.1
                  have hfree2 : free (taken U s.nx (s.nx + d.hd.rows)) (mkD d.hd s.nx (s.nx + d.hd.rows) x').nx s'.nx := by
                    refine free_right (U := U) (a := s.nx) ?_ (by omega)
                    exact free_left hu (by omega)
                  refine ht.2 _ e' a' _ hfree2 hfit fun e2 a2 q1 q2 q3 => ?_
                  have hUe : ∀ b, taken (taken U s.nx (s.nx + d.hd.rows)) (mkD d.hd s.nx (s.nx + d.hd.rows) x').nx s'.nx b → U b ∨ s.nx ≤ b := by
                    rintro b ((hb | hb) | hb)
                    · exact .inl hb
                    · exact .inr hb.1
                    · have : s.nx + d.hd.rows ≤ b := hb.1
                      exact .inr (by omega)
                  have hx2 := hx1.trans q2
                  have hfr2 := hfr1.trans q3
                  -- a way out
                  have hgo : ∀ z', rdE d.outs s.nx r' s' = some z' → iter f (k + 1) x' = some z → res = .inr z' → Q r'.toExit a2 e2.w := by
                    intro z' hz' _ hres
                    rw [hres] at hit
                    cases hit
                    obtain ⟨hr1, D, xo, ⟨kk, hmem⟩, hs1, hrd⟩ := hout r' s' hz'
                    have hDr := Nat.le_of_ble_eq_true (hroom2 _ hmem)
                    obtain ⟨e3, p1, p2, p3, p4⟩ := refitF q1 hUe hdom (free_left hu (by simp only at hDr; omega)) hx2 hfr2 hrd (s.nx + d.room)
                    rw [hr1, ← p1]
                    refine hq e3 a2 ?_ p2 (by rw [hs1]; exact p3)
                    rw [hs1]
                    refine p4.widen fun b hb => hb.imp id fun h => ⟨h.1, ?_⟩
                    have : (mkD D s.nx (s.nx + d.room) xo).nx = s.nx + d.room := rfl
                    simp only at hDr
                    omega
                  cases r' with
                  | normal =>
                    simp only at hrk
                    split at hrk
                    · rename_i x2 hx2'
                      cases hrk
                      simp only at hit
                      obtain ⟨e3, p1, p2, p3, p4⟩ := refitF q1 hUe hdom hfreeH hx2 hfr2 hx2' (s.nx + d.hd.rows)
                      have hJ : J k a2 e2.w := ⟨x2, e3, hit, p1, p2, p3, p4⟩
                      refine ⟨⟨k, hJ⟩, ?_⟩
                      have := hμ hJ
                      omega
                    · cases hrk
                  | exit id =>
                    simp only at hrk
                    split at hrk
                    · rename_i z' hz'
                      cases hrk
                      exact hgo z' hz' (by simp only [iter, hfx]; exact hit) rfl
                    · cases hrk
                  | ret =>
                    simp only at hrk
                    split at hrk
                    · rename_i z' hz'
                      cases hrk
                      exact hgo z' hz' (by simp only [iter, hfx]; exact hit) rfl
                    · cases hrk
    · cases h
/-- A loop of which several lines may tell: the first one that fits. -/
noncomputable def lpM : List (Nat × LD) → Nat → ((R : Type) → AS → (AExit → AS → Option R) → Option R) → (R : Type) → AS → (AExit → AS → Option R) → Option R
  | [], _, _, _, _, _ => none
  | (i, d) :: r, id, ev, R, s, K => match Nat.beq id i with
    | false => lpM r id ev R s K
    | true => match rdH d s with
      | some _ => lpH [(i, d)] id ev R s K
      | none => lpM r id ev R s K
theorem lpM_ev {P : Program} {C : Ctx} {n : Nat} {id : Nat} {body : Code} {ev : (R : Type) → AS → (AExit → AS → Option R) → Option R} (hbody : EvOK P C n body ev) : ∀ L : List (Nat × LD), EvOK P C n (.loop body) (lpM L id ev)
  | [] => fun R s K y h => by cases h
  | (i, d) :: r => fun R s K y h => by
    unfold lpM at h
    split at h
    · exact lpM_ev hbody r R s K y h
    · split at h
      · exact lpH_ev hbody R s K y h
      · exact lpM_ev hbody r R s K y h
theorem lpM_ok {P : Program} {C : Ctx} {n : Nat} {E : EE} {L : List (Nat × LD)} (hE : E.lp = lpM L) : LpOK P C n E := by
  intro body hbody
  rw [hE]
  exact lpM_ev hbody L
/-- What is told as one. -/
theorem onceH_ev {P : Program} {C : Ctx} {n : Nat} {d : LD} {body : Code} {ev : (R : Type) → AS → (AExit → AS → Option R) → Option R} (hbody : EvOK P C n body ev) : EvOK P C n body (onceH d ev) := by
  intro R s K y h
  unfold onceH at h
  split at h
  · rename_i x hroom hx
    simp only [roomy, Bool.and_eq_true, List.all_eq_true] at hroom
    obtain ⟨hroom1, hroom2⟩ := hroom
    have hroom1 := Nat.le_of_ble_eq_true hroom1
    unfold once at h; dsimp only at h
    cases hev : ev (denE d.outs) (mkD d.hd s.nx (s.nx + d.hd.rows) x) (exitK d s.nx) with
    | none => rw [hev] at h; cases h
    | some z =>
      rw [hev] at h
      simp only [Option.bind_some] at h
      obtain ⟨r, s1, hk, hrn, hnx, hout⟩ := contE_some d.outs z h
      refine ⟨r, keepS (kept d.fr s.nx) (frzD d.hd s).mem s1, ⟨?_, ?_⟩, hk⟩
      · show s.nx ≤ s1.nx; omega
      · intro U e9 a Q hu hf9 hq9
        have hu : free U s.nx s1.nx := hu
        obtain ⟨e, hw9, hx9, hfr9, hf8⟩ := frzD_ok d.hd hf9
        have hf := hf8.drop (kept d.fr s.nx)
        have hq : ∀ e' a', Fit C n (taken U s.nx s1.nx) e' s1 a' → Ext e e' → Frm e (dropS (kept d.fr s.nx) (frzD d.hd s)).mem e' s1.mem → Q r.toExit a' e'.w := fun e' a' g1 g2 g3 => by
          obtain ⟨k1, k2⟩ := hf8.keep (kept d.fr s.nx) g2 g1 g3
          exact hq9 e' a' k1 (hx9.trans g2) (hfr9.trans k2)
        rw [← hw9]
        have hdom : ∀ b bt, e.ρ b = some bt → U b := hf.mem.nx
        have hfreeH : free U s.nx (s.nx + d.hd.rows) := free_left hu (by omega)
        obtain ⟨e', g1, hx1, hfr1, hfit⟩ := refit hf (fun b hb => .inl hb) hdom hfreeH (Ext.refl e) (Frm.refl e _) hx (s.nx + d.hd.rows)
        obtain ⟨r', s', ht, hrk⟩ := hbody _ _ _ _ hev
        unfold exitK at hrk
        split at hrk
        · cases hrk
        · rename_i hble
          have hble := Nat.le_of_ble_eq_true hble
          have hle1 : s.nx + d.hd.rows ≤ s'.nx := ht.1
          have hfree2 : free (taken U s.nx (s.nx + d.hd.rows)) (mkD d.hd s.nx (s.nx + d.hd.rows) x).nx s'.nx := by
            refine free_right (U := U) (a := s.nx) ?_ (by omega)
            exact free_left hu (by omega)
          rw [← g1]
          refine ht.2 _ e' a _ hfree2 hfit fun e2 a2 q1 q2 q3 => ?_
          have hUe : ∀ b, taken (taken U s.nx (s.nx + d.hd.rows)) (mkD d.hd s.nx (s.nx + d.hd.rows) x).nx s'.nx b → U b ∨ s.nx ≤ b := by
            rintro b ((hb | hb) | hb)
            · exact .inl hb
            · exact .inr hb.1
            · have : s.nx + d.hd.rows ≤ b := hb.1
              exact .inr (by omega)
          have hx2 := hx1.trans q2
          have hfr2 := hfr1.trans q3
          obtain ⟨hr1, D, xo, ⟨kk, hmem⟩, hs1, hrd⟩ := hout r' s' hrk
          have hDr := Nat.le_of_ble_eq_true (hroom2 _ hmem)
          obtain ⟨e3, p1, p2, p3, p4⟩ := refitF q1 hUe hdom (free_left hu (by simp only at hDr; omega)) hx2 hfr2 hrd (s.nx + d.room)
          rw [hr1, ← p1]
          refine hq e3 a2 ?_ p2 (by rw [hs1]; exact p3)
          rw [hs1]
          refine p4.widen fun b hb => hb.imp id fun h => ⟨h.1, ?_⟩
          have : (mkD D s.nx (s.nx + d.room) xo).nx = s.nx + d.room := rfl
          simp only at hDr
          omega
  · cases h
theorem onceM_ev {P : Program} {C : Ctx} {n : Nat} {body : Code} {ev : (R : Type) → AS → (AExit → AS → Option R) → Option R} (hbody : EvOK P C n body ev) : ∀ L : List (Nat × LD), EvOK P C n body (onceM L ev)
  | [] => fun R s K y h => hbody R s K y h
  | (i, d) :: r => fun R s K y h => by
    unfold onceM at h
    split at h
    · exact onceM_ev hbody r R s K y h
    · split at h
      · exact onceH_ev hbody R s K y h
      · exact onceM_ev hbody r R s K y h
theorem inlJ_ok {P : Program} {C : Ctx} {E : EE} {B : Bodies} (L : List (Nat × LD)) (hB : BodiesOK P B) (hE : EOK P C E) (hlp : ∀ n, LpOK P C n E) (h0 : ∀ i, E.sp i = none) (hdraw : P.follows .mixedOrders = true) : InlOK P C (inlJ L E B) := by
  intro R f vs m nx K y h
  unfold inlJ at h
  split at h
  · cases h
  · rename_i n rs body hbo
    obtain ⟨fn, hf, hb, hn, hrs, hname⟩ := hB f n rs body hbo
    subst hn; subst hrs
    refine ⟨FnOK.of hf hb hname, ?_⟩
    split at h
    · cases h
    · rename_i hle
      obtain ⟨r, s', ht, hk⟩ := onceM_ev (fun R s K y h => evC_ok hE hdraw (hlp fn.ntmps) h0 body R s K y h) L _ _ _ _ h
      have : ∃ l v, (r = .normal ∨ r = .ret) ∧ resList E.T s' fn.results.toList = some l ∧ resPack l = some v ∧ K v s'.mem s'.nx = some y := by
        cases r with
        | exit id => simp at hk
        | normal =>
          simp only at hk
          split at hk
          · rename_i l hl
            split at hk
            · rename_i v hv; exact ⟨l, v, .inl rfl, hl, hv, hk⟩
            · cases hk
          · cases hk
        | ret =>
          simp only at hk
          split at hk
          · rename_i l hl
            split at hk
            · rename_i v hv; exact ⟨l, v, .inr rfl, hl, hv, hk⟩
            · cases hk
          · cases hk
      obtain ⟨l, v, hr, hl, hv, hk⟩ := this
      refine ⟨v, s'.mem, s'.nx, ht.1, hk, fun e xs U hxs hm hu => ?_⟩
      have hl2 := hxs.length
      have hfit := fit_init (n := fn.ntmps) (nx := nx) hxs hm (Nat.le_of_ble_eq_true hle)
      refine calls_of_wp hf hb (ht.2 U e _ _ hu hfit fun e' a' hf' hx' hfr' => ?_)
      obtain ⟨zs, hz, hall⟩ := resList_ok hE.tab hf' _ _ hl
      have hpost : a'.defers = [] ∧ ∃ v', (results fn a'.tmps).run P e'.w = .ok v' e'.w ∧ ∃ z, (Ending.returned v') = .returned z ∧ Res C e m U nx s'.nx v s'.mem z e'.w :=
        ⟨hf'.defers, _, results_run hz, _, rfl, e', rfl, hx', hf'.mem, hfr', resPack_ok hall hv⟩
      rcases hr with rfl | rfl
      · exact hpost
      · exact hpost
theorem inlO_ok {P : Program} {C : Ctx} {Es : Nat → EE} {B : Bodies} (Ls : Nat → List (Nat × LD)) (hB : BodiesOK P B) (hE : ∀ f, EOK P C (Es f)) (hlp : ∀ f n, LpOK P C n (Es f)) (h0 : ∀ f i, (Es f).sp i = none) (hdraw : P.follows .mixedOrders = true) : InlOK P C (fun R f vs m nx K => inlJ (Ls f) (Es f) B R f vs m nx K) :=
  fun R f vs m nx K y h => inlJ_ok (Ls f) hB (hE f) (hlp f) (h0 f) hdraw R f vs m nx K y h
end Go.Co
end

section
namespace Go.Co
open Go.RowKit Go.ChangeShapes Go.WideElems

/-- No slice of elements that hold nothing. -/
def posB (T : Tab) : Bool := T.all fun e => match e.2 with | .ty (.list u) => !Nat.beq u.size 0 | _ => true
theorem posB_get {T : Tab} (h : posB T = true) {id : Nat} {u : Ty} (hi : T.get id = some (.ty (.list u))) : u.size ≠ 0 := by
  have key : ∀ (U : Tab), (U.all fun e => match e.2 with | .ty (.list u) => !Nat.beq u.size 0 | _ => true) = true → U.get id = some (.ty (.list u)) → u.size ≠ 0 := by
    intro U
    induction U with
    | nil => intro _ h; cases h
    | cons e U ih =>
      intro h hg
      obtain ⟨i, e⟩ := e
      simp only [List.all_cons, Bool.and_eq_true] at h
      unfold Tab.get at hg
      split at hg
      · cases hg
        have := h.1
        intro h0
        simp [h0] at this
      · exact ih h.2 hg
  exact key T h hi
/-- What came in reads as it did: nothing of old is frozen that wasn't. -/
theorem post_of_old {H : Type} {enc : TypeId × Value → H} {P : Program} {f : Func} {s : ChangeSpec} {apart fresh handsOn again : Bool} {W W' : World} {args : Array Value} {v : Value} {ds gs : List (DataW H)} {before pa pv : List MemPlace}
    (hW : DataW.Whole enc P f.params.toList s.vars apart W args.toList ds gs before)
    (hres : ∀ (b : Nat) (sp : Nat → Bool) (hd : Bool), DataW.TrodAll enc P W' b sp hd f.resultTypes.toList (v.resultList f.resultTypes.size) (s.fn H (ds ++ gs)).results [])
    (hargs : ∀ sp : Nat → Bool, (∀ p ∈ before, sp p.block = true) → DataW.TrodAll enc P W' 0 sp true f.params.toList args.toList (s.fn H (ds ++ gs)).args pa)
    (hvars : ∀ sp : Nat → Bool, (∀ p ∈ before, sp p.block = true) → DataW.TrodVars enc P W' sp s.vars (s.fn H (ds ++ gs)).vars pv)
    (hps : before = pa ++ pv) (hk : W.keptBut W' (· ∈ before)) (hfz : ∀ a : Addr, a.block < W.heap.size → W'.frozen? a = W.frozen? a)
    (hok : ∀ (j : Nat) (t : TypeId) (r : Value), f.resultTypes[j]? = some t → (v.resultList f.resultTypes.size)[j]? = some r → Value.okWide P W' .any 0 t r) :
    s.post enc P f apart fresh handsOn again W args v W' := by
  have hlt := hW.lt
  have hold : ∀ p ∈ before, (fun b => decide (b < W.heap.size)) p.block = true := fun p hp => by simpa using hlt p hp
  have hmem : ∀ p, p ∈ pa ∨ p ∈ pv ↔ p ∈ before := fun p => by rw [hps, List.mem_append]
  refine ⟨ds, gs, before, [], pa, pv, hW, hres _ _ _, hargs _ hold, hvars _ hold, World.keptBut_mono (fun p hp => ⟨hp, .inr ((hmem p).2 hp)⟩) hk, fun _ => ?_⟩
  obtain ⟨_, _, _, _, _, hz, hn⟩ := hW
  have hnil : ([] ++ pa) ++ pv = before := by rw [hps, List.nil_append]
  refine ⟨hok, _, _, ([] ++ pa) ++ pv, ⟨[] ++ pa, pv, trodAll_append (hargs _ (fun _ _ => rfl)) (hres _ _ _), hvars _ (fun _ _ => rfl), rfl, fun b off hp => ?_, fun ha => ?_⟩, fun p hp _ => ?_⟩
  · rw [hnil] at hp
    rw [hfz _ (hlt _ hp)]
    exact hz b off hp
  · rw [hnil]; exact hn ha
  · rw [hnil] at hp; exact hp
section
variable {P : Program} {T : Tab} (hT : TabOK P T)
include hT
theorem cellsOf_eq {id : Nat} {t : Ty} (h : T.get id = some (.ty t)) : P.cellsOf id = t.size := by
  obtain ⟨_, ⟨i, hi, hs, _⟩, _⟩ := hT id _ h
  simp [Program.cellsOf, hi, hs]
theorem bytesOf_eq {id : Nat} {t : Ty} (h : T.get id = some (.ty t)) : P.bytesOf id = t.bytes := by
  obtain ⟨_, ⟨i, hi, _, hs, _⟩, _⟩ := hT id _ h
  simp [Program.bytesOf, hi, hs]
omit hT in
theorem list_of {α β : Type} {R : α → β → Prop} {g : Nat → β} : ∀ (n : Nat), (∀ i, i < n → ∃ y, R y (g i)) → ∃ ys : List α, ys.length = n ∧ All2 R ys ((List.range n).map g)
  | 0, _ => ⟨[], rfl, trivial⟩
  | n + 1, h => by
    obtain ⟨ys, h1, h2⟩ := list_of n (fun i hi => h i (by omega))
    obtain ⟨y, hy⟩ := h n (by omega)
    refine ⟨ys ++ [y], by simp [h1], ?_⟩
    rw [List.range_succ, List.map_append]
    exact h2.append ⟨hy, trivial⟩
omit hT in
theorem cut_up {α : Type} {sz : Nat} : ∀ (n : Nat) (cs : List α), cs.length = n * sz → ((List.range n).map fun i => (cs.drop (i * sz)).take sz).flatten = cs
  | 0, cs, h => by simp at h; simp [h]
  | n + 1, cs, h => by
    have h0 : (cs.take (n * sz)).length = n * sz := by rw [List.length_take, h, Nat.add_mul]; omega
    have ih := cut_up n (cs.take (n * sz)) h0
    rw [List.range_succ, List.map_append, List.flatten_append]
    have e1 : (List.range n).map (fun i => (cs.drop (i * sz)).take sz) = (List.range n).map (fun i => ((cs.take (n * sz)).drop (i * sz)).take sz) := by
      refine List.map_congr_left fun i hi => ?_
      have hi : i < n := by simpa using hi
      have hle : (i + 1) * sz ≤ n * sz := Nat.mul_le_mul_right _ hi
      rw [Nat.add_mul, Nat.one_mul] at hle
      rw [List.drop_take, List.take_take]
      congr 1
      omega
    rw [e1, ih]
    simp only [List.map_cons, List.map_nil, List.flatten_cons, List.flatten_nil, List.append_nil]
    have e2 : (cs.drop (n * sz)).take sz = cs.drop (n * sz) := List.take_of_length_le (by rw [List.length_drop, h, Nat.add_mul]; omega)
    rw [e2, List.take_append_drop]
omit hT in
theorem cells_get {w : World} {base : Nat} {a : Addr} {n : Nat} {cs : List Value} (h : w.cells? base a n = some cs) : cs.length = n ∧ ∀ j v, cs[j]? = some v → w.cell? (a.add j) = some v := by
  unfold World.cells? at h
  split at h
  · refine ⟨by simpa using mapM_some_length h, fun j v hv => ?_⟩
    have hj : j < cs.length := (List.getElem?_eq_some_iff.1 hv).1
    have hl : cs.length = n := by simpa using mapM_some_length h
    have := mapM_some_get h j j (by rw [List.getElem?_range]; omega)
    rw [hv] at this; exact this
  · cases h
omit hT in
theorem cell_spot {w : World} {a : Addr} {v : Value} (h : w.cell? a = some v) : a.spot = none ∧ a.block < w.heap.size := by
  unfold World.cell? at h
  split at h
  · rename_i hb
    refine ⟨?_, (Array.getElem?_eq_some_iff.1 hb).1⟩
    cases hs : a.spot with
    | none => rfl
    | some x => simp [hs] at h
  · cases h
omit hT in
theorem weightsAll_get {H : Type} {e : TypeId} {b : Nat} : ∀ {l : List (DataW H)}, (DataW.weightsAll P e l).all (· ≤ b) = true → ∀ d ∈ l, (d.weights P e).all (· ≤ b) = true
  | [], _, d, h => by cases h
  | x :: l, h, d, hd => by
    simp only [DataW.weightsAll, List.all_append, Bool.and_eq_true] at h
    rcases List.mem_cons.1 hd with rfl | hd
    · exact h.1
    · exact weightsAll_get h.2 d hd

/-- Arguments' slices and texts are within a machine's reach. -/
def Fr : (t : Ty) → t.den → Prop
  | .str, s => s.size ≤ reachBytes
  | .list t, xs => List.length xs * t.bytes ≤ reachBytes
  | .prod a b, x => Fr a x.1 ∧ Fr b x.2
  | .st s, x => Fr s.body (s.unpack x)
  | _, _ => True
termination_by t => t.wt
decreasing_by
  all_goals first
    | (simp only [Ty.wt]; omega)
    | (simp only [Ty.wt]; exact St.wt_body _)
omit hT in
theorem Fr.str {s : ByteArray} : Fr .str s ↔ s.size ≤ reachBytes := by rw [Fr]
omit hT in
theorem Fr.list {t : Ty} {xs : List t.den} : Fr (.list t) xs ↔ List.length xs * t.bytes ≤ reachBytes := by rw [Fr]
omit hT in
theorem Fr.prod {a b : Ty} {x : a.den × b.den} : Fr (.prod a b) x ↔ Fr a x.1 ∧ Fr b x.2 := by rw [Fr]
omit hT in
theorem Fr.st {s : St} {x : s.den} : Fr (.st s) x ↔ Fr s.body (s.unpack x) := by rw [Fr]
omit hT in
theorem Fr.int {k : IntKind} {x : Int} : Fr (.int k) x := by rw [Fr] <;> first | trivial | simp
omit hT in
theorem Fr.bool {x : Bool} : Fr .bool x := by rw [Fr] <;> first | trivial | simp
omit hT in
theorem Fr.unit {x : Unit} : Fr .unit x := by rw [Fr] <;> first | trivial | simp
omit hT in
theorem Fr.arr {n : Nat} {t : Ty} {x : Arr n t.den} : Fr (.arr n t) x := by rw [Fr] <;> first | trivial | simp
def FrL : (l : List Ty) → denL l → Prop
  | [], _ => True
  | t :: r, x => Fr t x.1 ∧ FrL r x.2
variable {H : Type} {enc : TypeId × Value → H} {w : World} (hpos : posB T = true)
include hpos
def TR (P : Program) (T : Tab) (enc : TypeId × Value → H) (w : World) (t : Ty) : Prop := ∀ (id fuel : Nat) (cs : List Value) (x : DataW H × List MemPlace), T.get id = some (.ty t) → DataW.trod enc P w 0 (fun _ => true) true fuel id cs = some x →
    (x.1.weights P id).all (· ≤ reachBytes) = true → ∃ y, Rd w (fun k => k < w.heap.size) t y cs ∧ Fr t y
def TB (P : Program) (T : Tab) (enc : TypeId × Value → H) (w : World) (t : Ty) : Prop := ∀ (fs : List Field) (o n : Nat) (cs : List Value) (xs : List (DataW H × List MemPlace)), fldsOK T fs o t →
    (∀ (i : Nat) (f : Field), fs[i]? = some f → DataW.trod enc P w 0 (fun _ => true) true n f.type ((cs.drop f.offset).take (P.cellsOf f.type)) = xs[i]?) → xs.length = fs.length →
    (DataW.weightsEach P (fs.map (·.type)) (xs.map (·.1))).all (· ≤ reachBytes) = true → cs.length = o + t.size → ∃ y, Rd w (fun k => k < w.heap.size) t y (cs.drop o) ∧ Fr t y
theorem trod_Rd : ∀ t : Ty, TR P T enc w t ∧ TB P T enc w t := by
  have noB : ∀ t : Ty, (∀ a b, t ≠ .prod a b) → t ≠ .unit → TB P T enc w t := by
    intro t h1 h2 fs o n cs xs hf
    cases t <;> cases fs <;> simp [fldsOK] at hf <;> first | exact absurd rfl h2 | exact absurd rfl (h1 _ _)
  have hreach : reachBytes ≤ top := by decide
  refine Ty.ind ?_ ?_ ?_ ?_ ?_ ?_ ?_ ?_
  · intro k
    refine ⟨fun id fuel cs x hi h hw => ?_, noB _ (by simp) (by simp)⟩
    obtain ⟨n, rfl, _, hwf⟩ := DataW.trod_int (show P.underlying id = some (.int k) from (hT id _ hi).1) h
    refine ⟨n, Rd.int.2 ⟨rfl, ?_⟩, Fr.int⟩
    rw [inKind_iff]
    simpa [Lit.wf] using hwf
  · refine ⟨fun id fuel cs x hi h hw => ?_, noB _ (by simp) (by simp)⟩
    obtain ⟨b, rfl, _⟩ := DataW.trod_bool (show P.underlying id = some .bool from (hT id _ hi).1) h
    exact ⟨b, Rd.bool.2 rfl, Fr.bool⟩
  · refine ⟨fun id fuel cs x hi h hw => ?_, noB _ (by simp) (by simp)⟩
    obtain ⟨s, rfl, rfl, _⟩ := DataW.trod_string (show P.underlying id = some .string from (hT id _ hi).1) h
    simp [DataW.weights] at hw
    exact ⟨s, Rd.str.2 ⟨rfl, Nat.le_trans hw hreach⟩, Fr.str.2 hw⟩
  · refine ⟨fun id fuel cs x hi => (hT id _ hi).1.elim, ?_⟩
    intro fs o n cs xs hf _ _ _ hl
    refine ⟨(), Rd.unit.2 ?_, Fr.unit⟩
    exact List.drop_of_length_le (by rw [hl]; simp [Ty.size])
  · intro a b iha ihb
    refine ⟨fun id fuel cs x hi => (hT id _ hi).1.elim, ?_⟩
    intro fs o n cs xs hf hx hxl hw hl
    cases fs with
    | nil => exact hf.elim
    | cons f fs =>
      obtain ⟨h1, h2, _, _, h5⟩ := hf
      cases xs with
      | nil => simp at hxl
      | cons x0 xs =>
        simp only [List.map_cons, DataW.weightsEach, List.all_append, Bool.and_eq_true] at hw
        have ht0 := hx 0 f rfl
        simp only [List.getElem?_cons_zero] at ht0
        rw [h1, cellsOf_eq hT h2] at ht0
        obtain ⟨y0, hy0, hr0⟩ := iha.1 f.type n _ x0 h2 ht0 hw.1
        obtain ⟨y1, hy1, hr1⟩ := ihb.2 fs (o + a.size) n cs xs h5 (fun i g hg => by
          have := hx (i + 1) g (by simpa using hg)
          simpa using this) (by simpa using hxl) hw.2 (by rw [hl]; simp [Ty.size]; omega)
        refine ⟨(y0, y1), Rd.prod.2 ⟨_, _, ?_, hy0, hy1⟩, Fr.prod.2 ⟨hr0, hr1⟩⟩
        rw [← List.drop_drop, List.take_append_drop]
  · intro n u ih
    refine ⟨fun id fuel cs x hi h hw => ?_, noB _ (by simp) (by simp)⟩
    obtain ⟨e, hu, he⟩ := (hT id _ hi).1
    obtain ⟨xs, m, rfl, rfl, hl, hxl, hx⟩ := DataW.trod_array hu h
    rw [cellsOf_eq hT hi] at hl
    have hce := cellsOf_eq hT he
    simp only [DataW.weights, hu] at hw
    have hwe := weightsAll_get (P := P) hw
    obtain ⟨ys, hyl, hall⟩ := list_of (R := Rd w (fun k => k < w.heap.size) u) (g := fun i => (cs.drop (i * u.size)).take u.size) n (fun i hi' => by
      have hxi := hx i hi'
      have hlt : i < xs.length := by omega
      rw [hce, List.getElem?_eq_getElem hlt] at hxi
      obtain ⟨y, hy, _⟩ := ih.1 e m _ _ he hxi (hwe _ (List.mem_map.2 ⟨_, List.getElem_mem hlt, rfl⟩))
      exact ⟨y, hy⟩)
    refine ⟨⟨ys.toArray, by simp [hyl]⟩, Rd.arr.2 ⟨_, (cut_up n cs (by rw [hl]; rfl)).symm, ?_⟩, Fr.arr⟩
    simpa using hall
  · intro u ih
    refine ⟨fun id fuel cs x hi h hw => ?_, noB _ (by simp) (by simp)⟩
    obtain ⟨e, hu, he⟩ := (hT id _ hi).1
    have hce := cellsOf_eq hT he
    have hu0 := posB_get hpos hi
    rcases DataW.trod_slice hu h with ⟨rfl, _⟩ | ⟨a, len, cap, elems, rest, n, rfl, rfl, rfl, _, hlc, hcm, hel, hx, _, _⟩
    · exact ⟨[], Rd.list.2 ⟨by simp, .inl ⟨rfl, rfl⟩⟩, Fr.list.2 (by simp)⟩
    · simp only [DataW.weights, hu, List.all_cons, List.all_append, Bool.and_eq_true] at hw
      obtain ⟨hw1, hw2, _⟩ := hw
      have hwe := weightsAll_get (P := P) hw2
      have hw1 := of_decide_eq_true hw1
      rw [bytesOf_eq hT he, List.length_map, List.length_map, hel] at hw1
      have hone : ∀ i, i < len → ∃ l, w.cells? 0 (a.add (i * u.size)) u.size = some l ∧ ∃ y, Rd w (fun k => k < w.heap.size) u y l := by
        intro i hi'
        have hxi := hx i hi'
        have hlt : i < elems.length := by omega
        rw [hce, List.getElem?_eq_getElem hlt] at hxi
        obtain ⟨l, h1, h2⟩ := Option.bind_eq_some_iff.1 hxi
        obtain ⟨y, hy, _⟩ := ih.1 e n l _ he h2 (hwe _ (List.mem_map.2 ⟨_, List.getElem_mem hlt, rfl⟩))
        exact ⟨l, h1, y, hy⟩
      obtain ⟨ys, hyl, hall⟩ := list_of (R := Rd w (fun k => k < w.heap.size) u) (g := fun i => (w.cells? 0 (a.add (i * u.size)) u.size).getD []) len (fun i hi' => by
        obtain ⟨l, h1, y, hy⟩ := hone i hi'
        exact ⟨y, by rw [h1]; exact hy⟩)
      have hfirst : ys ≠ [] → a.spot = none ∧ a.block < w.heap.size := by
        intro hne
        have hl0 : 0 < len := by rw [← hyl]; exact List.length_pos_iff.2 hne
        obtain ⟨l, h1, _⟩ := hone 0 hl0
        obtain ⟨hll, hlc⟩ := cells_get h1
        have hlt : 0 < l.length := by omega
        have := cell_spot (hlc 0 _ (List.getElem?_eq_getElem hlt))
        simpa [Addr.add] using this
      have hlenb : len * u.bytes ≤ (len + rest.length) * u.bytes := Nat.mul_le_mul_right _ (by omega)
      refine ⟨ys, Rd.list.2 ⟨?_, .inr ⟨a, cap, _, by rw [hyl], fun hne => (hfirst hne).1, by rw [hyl]; exact hlc, hcm, hall, fun hne => (hfirst hne).2, fun j v hv => ?_⟩⟩, Fr.list.2 (by rw [show List.length ys = len from hyl]; omega)⟩
      · rw [hyl]
        omega
      · -- the j-th cell
        have hlens := hall.lens
        have hne : ys ≠ [] := by
          intro hn
          rw [hn] at hyl
          have : len = 0 := hyl.symm
          subst this
          simp at hv
        obtain ⟨hsp, _⟩ := hfirst hne
        have hspos : 0 < u.size := by omega
        have hjlt := (List.getElem?_eq_some_iff.1 hv).1
        rw [flatten_len (n := u.size) hlens, List.length_map, List.length_range] at hjlt
        have hi' : j / u.size < len := by rw [Nat.div_lt_iff_lt_mul hspos]; exact hjlt
        obtain ⟨l, h1, y, hy⟩ := hone (j / u.size) hi'
        obtain ⟨hll, hlc'⟩ := cells_get h1
        have hat : ((List.range len).map fun i => (w.cells? 0 (a.add (i * u.size)) u.size).getD [])[j / u.size]? = some l := by
          rw [List.getElem?_map, List.getElem?_range hi']; simp [h1]
        have hdm := Nat.div_add_mod' j u.size
        have hml := Nat.mod_lt j hspos
        have hfl := flatten_at hlens hat
        have hv2 : l[j % u.size]? = some v := by
          rw [hfl] at hv
          have hlen1 : (List.take (j / u.size * u.size) ((List.range len).map fun i => (w.cells? 0 (a.add (i * u.size)) u.size).getD []).flatten).length = j / u.size * u.size := by
            rw [List.length_take, flatten_len (n := u.size) hlens, List.length_map, List.length_range]
            have : (j / u.size) * u.size ≤ len * u.size := Nat.mul_le_mul_right _ (by omega)
            omega
          rw [List.append_assoc, List.getElem?_append_right (by rw [hlen1]; omega), hlen1, List.getElem?_append_left (by rw [hll]; omega)] at hv
          rw [show j - j / u.size * u.size = j % u.size by omega] at hv
          exact hv
        have hc := hlc' _ _ hv2
        have e1 : a.add (j / u.size * u.size) = ⟨a.block, a.off + j / u.size * u.size, none⟩ := addr_add' hsp _
        rw [e1, addr_add] at hc
        rw [show a.off + j = a.off + j / u.size * u.size + j % u.size by omega]
        exact hc
  · intro s ih
    refine ⟨fun id fuel cs x hi h hw => ?_, noB _ (by simp) (by simp)⟩
    obtain ⟨fs, hu, hf, _⟩ := (hT id _ hi).1
    obtain ⟨xs, n, rfl, rfl, hl, hxl, hx⟩ := DataW.trod_struct hu h
    rw [cellsOf_eq hT hi] at hl
    simp only [DataW.weights, hu] at hw
    obtain ⟨y, hy, hr⟩ := ih.2 fs.toList 0 n cs xs hf (fun i f hfi => hx i f (by simpa using hfi)) (by simpa using hxl) hw (by rw [hl, St.size_body]; simp [Ty.size])
    refine ⟨s.pack y, Rd.st.2 ?_, Fr.st.2 ?_⟩
    · rw [St.unpack_pack]
      simpa using hy
    · rw [St.unpack_pack]; exact hr

/-! ### Arguments -/
omit hT hpos in
/-- Do the types' numbers stand for these kinds? -/
def idsB (T : Tab) : List Nat → List Ty → Bool
  | [], [] => true
  | i :: is, t :: ts => getTyB T i t && idsB T is ts
  | _, _ => false
theorem one_Rd {base : Nat} {id : Nat} {t : Ty} {v : Value} {d : DataW H} {ps : List MemPlace} (hi : T.get id = some (.ty t)) (hv : Value.okWide P w .any base id v) (h : DataW.Trod enc P w 0 (fun _ => true) true id v d ps)
    (hw : (d.weights P id).all (· ≤ reachBytes) = true) : ∃ y cs, v = pk t.agg cs ∧ Rd w (fun k => k < w.heap.size) t y cs ∧ Fr t y := by
  obtain ⟨fuel, h⟩ := h
  obtain ⟨y, hy, hr⟩ := (trod_Rd hT hpos t).1 id fuel _ _ hi h hw
  refine ⟨y, v.cells.toList, ?_, hy, hr⟩
  have hd := (hT id _ hi).1
  have single : t.agg = false → (∀ cs, v ≠ .agg cs) → v = pk t.agg v.cells.toList := by
    intro hg hna
    rw [hg]
    cases v <;> first | rfl | exact absurd rfl (hna _)
  cases t with
  | int k =>
    have hu : P.underlying id = some (.int k) := hd
    refine single rfl fun cs e => ?_
    subst e; simp [Value.okWide, hu, Cell.okWide, Cell.ok] at hv
  | bool =>
    have hu : P.underlying id = some .bool := hd
    refine single rfl fun cs e => ?_
    subst e; simp [Value.okWide, hu, Cell.okWide, Cell.ok] at hv
  | str =>
    have hu : P.underlying id = some .string := hd
    refine single rfl fun cs e => ?_
    subst e; simp [Value.okWide, hu, Cell.okWide, Cell.ok] at hv
  | list u =>
    obtain ⟨e, hu, _⟩ := hd
    refine single rfl fun cs e => ?_
    subst e; simp [Value.okWide, hu, Cell.okWide, Cell.ok] at hv
  | unit => exact hd.elim
  | prod a b => exact hd.elim
  | arr n u =>
    obtain ⟨e, hu, _⟩ := hd
    simp only [Value.okWide, hu] at hv
    obtain ⟨cs, rfl, _⟩ := hv
    simp [pk, Ty.agg, Value.cells]
  | st s =>
    obtain ⟨e, hu, _⟩ := hd
    simp only [Value.okWide, hu] at hv
    obtain ⟨cs, rfl, _⟩ := hv
    simp [pk, Ty.agg, Value.cells]
theorem args_Rd {base : Nat} {vt : List Nat} {gs : List (DataW H)} : ∀ (ids : List Nat) (ts : List Ty) (vs : List Value) (ds : List (DataW H)) (p : List MemPlace), idsB T ids ts = true → DataW.TrodAll enc P w 0 (fun _ => true) true ids vs ds p →
    (∀ (j : Nat) t v, ids[j]? = some t → vs[j]? = some v → Value.okWide P w .any base t v) → (DataW.weightsEach P (ids ++ vt) (ds ++ gs)).all (· ≤ reachBytes) = true → ∃ x : denL ts, argsRd w (fun k => k < w.heap.size) ts x vs ∧ FrL ts x
  | [], [], [], [], _, _, _, _, _ => ⟨(), trivial, trivial⟩
  | [], [], _ :: _, [], _, _, h, _, _ => h.elim
  | [], [], [], _ :: _, _, _, h, _, _ => h.elim
  | [], [], _ :: _, _ :: _, _, _, h, _, _ => h.elim
  | i :: is, [], _, _, _, h, _, _, _ => by simp [idsB] at h
  | [], t :: ts, _, _, _, h, _, _, _ => by simp [idsB] at h
  | i :: is, t :: ts, [], _, _, _, h, _, _ => h.elim
  | i :: is, t :: ts, _ :: _, [], _, _, h, _, _ => h.elim
  | i :: is, t :: ts, v :: vs, d :: ds, p, hb, ⟨p1, p2, h1, h2, _⟩, hv, hw => by
    simp only [idsB, Bool.and_eq_true] at hb
    simp only [List.cons_append, DataW.weightsEach, List.all_append, Bool.and_eq_true] at hw
    obtain ⟨y, cs, hc, hy, hr⟩ := one_Rd hT hpos (getTyB_eq hb.1) (hv 0 i v rfl rfl) h1 hw.1
    obtain ⟨x, hx, hr2⟩ := args_Rd is ts vs ds p2 hb.2 h2 (fun j t v h3 h4 => hv (j + 1) t v (by simpa using h3) (by simpa using h4)) hw.2
    exact ⟨(y, x), ⟨⟨cs, hc, hy⟩, hx⟩, hr, hr2⟩
omit hT hpos in
theorem trodAll_stays (hl : laidOutB P = true) {W W' : World} {sp : Nat → Bool} : ∀ (ids : List Nat) (vs : List Value) (ds : List (DataW H)) (p : List MemPlace), ids.all (fun t => P.readableRec t && decide (t < P.types.size)) = true →
    DataW.TrodAll enc P W 0 (fun _ => true) true ids vs ds p → (∀ x ∈ p, W.sameAt W' x) → (∀ x ∈ p, sp x.block = true) → DataW.TrodAll enc P W' 0 sp true ids vs ds p
  | [], [], [], _, _, h, _, _ => h
  | [], _ :: _, [], _, _, h, _, _ => h.elim
  | [], _ :: _, _ :: _, _, _, h, _, _ => h.elim
  | [], [], _ :: _, _, _, h, _, _ => h.elim
  | _ :: _, [], _, _, _, h, _, _ => h.elim
  | _ :: _, _ :: _, [], _, _, h, _, _ => h.elim
  | i :: is, v :: vs, d :: ds, p, hb, ⟨p1, p2, h1, h2, he⟩, hs, hsp => by
    simp only [List.all_cons, Bool.and_eq_true, decide_eq_true_eq] at hb
    subst he
    exact ⟨p1, p2, Trod_stays hl hb.1.1 hb.1.2 h1 (fun x hx => hs x (by simp [hx])) (fun x hx => hsp x (by simp [hx])), trodAll_stays hl is vs ds p2 (by simpa using hb.2) h2 (fun x hx => hs x (by simp [hx])) (fun x hx => hsp x (by simp [hx])), rfl⟩
omit hT hpos in
theorem trodAll_len {W : World} : ∀ (ids : List Nat) (vs : List Value) (ds : List (DataW H)) (p : List MemPlace), DataW.TrodAll enc P W 0 (fun _ => true) true ids vs ds p → ds.length = ids.length
  | [], [], [], _, _ => rfl
  | [], _ :: _, [], _, h => h.elim
  | [], _ :: _, _ :: _, _, h => h.elim
  | [], [], _ :: _, _, h => h.elim
  | _ :: _, [], _, _, h => h.elim
  | _ :: _, _ :: _, [], _, h => h.elim
  | _ :: is, _ :: vs, _ :: ds, _, ⟨_, p2, _, h2, _⟩ => by simp [trodAll_len is vs ds p2 h2]

/-- The law, from its contract. -/
theorem law_callsG {W : World} (hG : GOK P W) {f : Nat} {fn : Func} {ts : List Ty} {s : ChangeSpec} {apart fresh handsOn again : Bool} {tb : Nat} {F : denL ts → Option (denL [.bool])} (hcon : ConOK P f ⟨ts, [.bool], F⟩) (hF : ∀ x, FrL ts x → F x = some (true, ())) (hids : idsB T fn.params.toList ts = true) (hres : fn.resultTypes = #[tb]) (htb : P.underlying tb = some .bool)
    (hsv : s.vars = []) (hspec : ∀ ds : List (DataW H), ds.length = fn.params.toList.length → s.fn H ds = { results := [.lit (.bool true)], args := ds }) (hl : laidOutB P = true) (hread : fn.params.toList.all (fun t => P.readableRec t && decide (t < P.types.size)) = true)
    {base : Nat} {args : Array Value} {ds gs : List (DataW H)} {before : List MemPlace} (hval : ∀ (j : Nat) t v, fn.params[j]? = some t → args[j]? = some v → Value.okWide P W .any base t v)
    (hW : DataW.Whole enc P fn.params.toList s.vars apart W args.toList ds gs before) (hwt : (DataW.weightsEach P (fn.params.toList ++ s.plain.varTypes P) (ds ++ gs)).all (· ≤ reachBytes) = true) :
    Calls P f args W fun e W' => ∃ v, e = .returned v ∧ s.post enc P fn apart fresh handsOn again W args v W' := by
  have hW' := hW
  obtain ⟨p, q, hA, hV, rfl, hfz, hnd⟩ := hW
  rw [hsv] at hV
  obtain ⟨rfl, rfl⟩ := trodVars_none hV
  obtain ⟨x, hx, hxr⟩ := args_Rd (w := W) hT hpos fn.params.toList ts args.toList ds p hids hA (fun j t v h1 h2 => hval j t v (by simpa using h1) (by simpa using h2)) hwt
  have hlen := trodAll_len _ _ _ _ hA
  have hrun := hcon.run W (fun k => k < W.heap.size) x args.toList (true, ()) hG (fun _ h => h) hx (hF x hxr)
  refine Calls.mono hrun ?_
  rintro e W' ⟨z, rfl, hb, hz⟩
  obtain ⟨cs, rfl, hz⟩ := hz
  have hz := Rd.bool.1 hz
  subst hz
  have hlt : ∀ x ∈ p, x.block < W.heap.size := fun x hx => hW'.lt x (by simp [hx])
  have hsp := hspec ds hlen
  refine ⟨_, rfl, post_of_old (pa := p) (pv := []) hW' ?_ ?_ ?_ rfl (hb.toBelow.frame _) hb.fz ?_⟩
  · intro b sp hd
    rw [List.append_nil, hsp, hres]
    exact trodAll_mk1 (shut_bool htb true)
  · intro sp hs
    rw [List.append_nil, hsp]
    exact trodAll_stays hl _ _ _ _ hread hA (fun x hx => hb.toBelow.same (hlt x hx)) (fun x hx => hs x (by simp [hx]))
  · intro sp hs
    rw [List.append_nil, hsp, hsv]
    rfl
  · exact ok_one hres rfl (okWide_bool_mk htb true)
theorem law_calls {W : World} (hG : GOK P W) {f : Nat} {fn : Func} {ts : List Ty} {s : ChangeSpec} {apart fresh handsOn again : Bool} {tb : Nat} (hcon : ConOK P f ⟨ts, [.bool], fun _ => some (true, ())⟩) (hids : idsB T fn.params.toList ts = true) (hres : fn.resultTypes = #[tb]) (htb : P.underlying tb = some .bool)
    (hsv : s.vars = []) (hspec : ∀ ds : List (DataW H), ds.length = fn.params.toList.length → s.fn H ds = { results := [.lit (.bool true)], args := ds }) (hl : laidOutB P = true) (hread : fn.params.toList.all (fun t => P.readableRec t && decide (t < P.types.size)) = true)
    {base : Nat} {args : Array Value} {ds gs : List (DataW H)} {before : List MemPlace} (hval : ∀ (j : Nat) t v, fn.params[j]? = some t → args[j]? = some v → Value.okWide P W .any base t v)
    (hW : DataW.Whole enc P fn.params.toList s.vars apart W args.toList ds gs before) (hwt : (DataW.weightsEach P (fn.params.toList ++ s.plain.varTypes P) (ds ++ gs)).all (· ≤ reachBytes) = true) :
    Calls P f args W fun e W' => ∃ v, e = .returned v ∧ s.post enc P fn apart fresh handsOn again W args v W' :=
  law_callsG hT hpos hG hcon (fun _ _ => rfl) hids hres htb hsv hspec hl hread hval hW hwt
end
end Go.Co
end

section
namespace Go.Co
open Go Go.ChangeAt Go.RowKit Go.ChangeShapes Go.WideShapes

def tabD : DataW Unit := .agg (tab64.map fun (v : Nat) => .lit (.int .u8 (v : Int)))
theorem gok_of_laid {P : Program} {w : World} {t e : TypeId} {d : DataW Unit} (hg : P.globalNamed "math/bits.deBruijn64tab" = some 0) (ht : (P.globals[0]?).map (·.type) = some t) (h1 : P.globals.size = 1)
    (hu : P.underlying t = some (.array 64 e)) (he : P.underlying e = some (.int .u8)) (hc : P.cellsOf e = 1) (hp : d.handleName?.isNone = true) (hd : d = tabD)
    (h : laidMetH P [("math/bits.deBruijn64tab", d)] w) : GOK P w := by
  rw [MakeChecks.laidMetH_plain _ _ _ (by simp [hp])] at h
  obtain ⟨ps, ⟨g0, t0, cs0, f0, p0, q0, hg0, ht0, hv0, hd0, _, _⟩, _, _⟩ := h
  obtain rfl := Option.some.inj (hg.symm.trans hg0)
  obtain rfl := Option.some.inj (ht.symm.trans ht0)
  obtain ⟨xs, m, rfl, hx, hlen, hn, hel⟩ := DataW.trod_array hu hd0
  simp only [Prod.mk.injEq] at hx
  rw [hd] at hx
  have hx1 : tab64.map (fun (v : Nat) => (DataW.lit (.int .u8 (v : Int)) : DataW Unit)) = xs.map (·.1) := by
    have := hx.1
    unfold tabD at this
    exact DataW.agg.inj this
  intro g gl hgl _ j v hj
  have hg' : g = 0 := by
    have := (Array.getElem?_eq_some_iff.1 hgl).1
    omega
  subst hg'
  have hj64 : j < 64 := by
    have := (List.getElem?_eq_some_iff.1 hj).1
    exact this
  have hlt : j < xs.length := by omega
  have h0 := hel j hj64
  rw [hc] at h0
  rw [List.getElem?_eq_getElem hlt] at h0
  obtain ⟨n, e1, e2, _⟩ := DataW.trod_int he h0
  have hv2 : (xs.map (·.1))[j]? = some (.lit (.int .u8 (v : Int))) := by
    rw [← hx1, List.getElem?_map, hj]; rfl
  rw [List.getElem?_map, List.getElem?_eq_getElem hlt, e2] at hv2
  simp only [Option.map_some, Option.some.injEq, DataW.lit.injEq, Lit.int.injEq, true_and] at hv2
  subst hv2
  rw [World.var?_cell hg0 hv0 j, ← Array.getElem?_toList]
  have : (cs0.toList.drop (j * 1)).take 1 = [.int .u8 (v : Int)] := e1
  rw [Nat.mul_one] at this
  cases hq : cs0.toList.drop j with
  | nil => rw [hq] at this; simp at this
  | cons c r =>
    rw [hq] at this
    simp only [List.take_succ_cons, List.take_zero, List.cons.injEq, and_true] at this
    subst this
    have : cs0.toList[j]? = (cs0.toList.drop j)[0]? := by rw [List.getElem?_drop]; simp
    rw [this, hq]; rfl
end Go.Co
end

section
namespace Go.Co
open Go.RowKit

/-! ### The answers' shapes -/
def shF : Ty → Sh
  | .list t => .row t
  | a => .hole a
def shB : Ty → Sh
  | .prod a b => .cons (shF a) (shB b)
  | _ => .nil
def shS (s : St) : Bool → Sh
  | true => .agv s (shB s.body)
  | false => .hole (.st s)
def shT : Ty → Sh
  | .st s => shS s (Ty.st s).lists
  | t => shF t
def unF : (a : Ty) → (shF a).den → a.den
  | .list _, x => x
  | .int _, x => x
  | .bool, x => x
  | .str, x => x
  | .unit, x => x
  | .prod _ _, x => x
  | .arr _ _, x => x
  | .st _, x => x
def unB : (b : Ty) → (shB b).den → b.den
  | .prod a b, x => (unF a x.1, unB b x.2)
  | b, _ => b.zero
def unS (s : St) : (b : Bool) → (shS s b).den → s.den
  | true, x => s.pack (unB s.body x)
  | false, x => x
def unT : (t : Ty) → (shT t).den → t.den
  | .st s, x => unS s _ x
  | .list t, x => unF (.list t) x
  | .int k, x => unF (.int k) x
  | .bool, x => unF .bool x
  | .str, x => unF .str x
  | .unit, x => unF .unit x
  | .prod a b, x => unF (.prod a b) x
  | .arr n t, x => unF (.arr n t) x
theorem mk_frF {a : Ty} {x : (shF a).den} {k : Nat} : mkAV (shF a) k x = frF a (unF a x) k := by cases a <;> rfl
theorem rows_frF {a : Ty} {x : (shF a).den} : rowsX (shF a) x = frRF a (unF a x) ∧ rowsIn (shF a) = frNF a := by cases a <;> exact ⟨rfl, rfl⟩
theorem mk_frB : ∀ (b : Ty) (x : (shB b).den) (k : Nat), mkAV (shB b) k x = frB b (unB b x) k ∧ rowsX (shB b) x = frRB b (unB b x) ∧ rowsIn (shB b) = frNB b := by
  intro b
  induction b with
  | prod a b _ ihb =>
    intro x k
    obtain ⟨h1, h2, h3⟩ := ihb x.2 (k + rowsIn (shF a))
    obtain ⟨g1, g2⟩ := rows_frF (a := a) (x := x.1)
    refine ⟨?_, ?_, ?_⟩
    · show AV.cons (mkAV (shF a) k x.1) (mkAV (shB b) (k + rowsIn (shF a)) x.2) = _
      rw [h1, mk_frF, g2]; rfl
    · show catL (rowsX (shF a) x.1) (rowsX (shB b) x.2) = _
      rw [g1, h2]; rfl
    · show rowsIn (shF a) + rowsIn (shB b) = _
      rw [g2, h3]; rfl
  | _ => intro x k; exact ⟨rfl, rfl, rfl⟩
def frSV (s : St) : Bool → s.den → Nat → AV
  | true, y, k => .agv s (frB s.body (s.unpack y) k)
  | false, y, _ => .val (.st s) y
def frSR (s : St) : Bool → s.den → List AB
  | true, y => frRB s.body (s.unpack y)
  | false, _ => []
def frSN (s : St) : Bool → Nat
  | true => frNB s.body
  | false => 0
theorem frV_st (s : St) (y : s.den) (k : Nat) : frV (.st s) y k = frSV s (Ty.st s).lists y k ∧ frR (.st s) y = frSR s (Ty.st s).lists y ∧ frN (.st s) = frSN s (Ty.st s).lists := by
  simp only [frV, frR, frN]
  cases (Ty.st s).lists <;> exact ⟨rfl, rfl, rfl⟩
theorem mk_frS (s : St) (k : Nat) : ∀ (b : Bool) (x : (shS s b).den), mkAV (shS s b) k x = frSV s b (unS s b x) k ∧ rowsX (shS s b) x = frSR s b (unS s b x) ∧ rowsIn (shS s b) = frSN s b
  | true, x => by
    obtain ⟨h1, h2, h3⟩ := mk_frB s.body x k
    refine ⟨?_, ?_, h3⟩
    · show AV.agv s (mkAV (shB s.body) k x) = .agv s (frB s.body (s.unpack (s.pack (unB s.body x))) k)
      rw [St.unpack_pack, h1]
    · show rowsX (shB s.body) x = frRB s.body (s.unpack (s.pack (unB s.body x)))
      rw [St.unpack_pack, h2]
  | false, _ => ⟨rfl, rfl, rfl⟩
theorem mk_frT (t : Ty) (x : (shT t).den) (k : Nat) : mkAV (shT t) k x = frV t (unT t x) k ∧ rowsX (shT t) x = frR t (unT t x) ∧ rowsIn (shT t) = frN t := by
  cases t with
  | st s =>
    obtain ⟨h1, h2, h3⟩ := mk_frS s k _ x
    obtain ⟨g1, g2, g3⟩ := frV_st s (unS s _ x) k
    exact ⟨h1.trans g1.symm, h2.trans g2.symm, h3.trans g3.symm⟩
  | _ => exact ⟨rfl, rfl, rfl⟩
def frSl : Nat → List Ty → List (Nat × Sh)
  | _, [] => []
  | i, t :: r => (i, shT t) :: frSl (i + 1) r
def frD (l : List Ty) : SD := ⟨frSl 0 l, [], []⟩
def unSl : (l : List Ty) → (i : Nat) → denSl (frSl i l) → denL l
  | [], _, _ => ()
  | t :: r, i, x => (unT t x.1, unSl r (i + 1) x.2)
/-- The answers at a function's end, their slices new rows. -/
def retF (T : Tab) (rs : List ResultVar) (res : List Ty) (e : AExit) (s : AS) : Option (denL res) :=
  match e with
  | .exit _ => none
  | _ => match resList T s rs with
    | some vs => match Nat.beq vs.length res.length, rdF (frD res) s.nx (initS vs s.mem s.nx) with
      | true, some x => some (unSl res 0 x.1)
      | _, _ => none
    | none => none
theorem rows_frSl : ∀ (l : List Ty) (i : Nat) (x : denSl (frSl i l)), rowsSlX (frSl i l) x = frRL l (unSl l i x) ∧ rowsSl (frSl i l) = frNL l
  | [], _, _ => ⟨rfl, rfl⟩
  | t :: r, i, x => by
    obtain ⟨h1, h2⟩ := rows_frSl r (i + 1) x.2
    obtain ⟨_, g2, g3⟩ := mk_frT t x.1 0
    refine ⟨?_, ?_⟩
    · show catL (rowsX (shT t) x.1) (rowsSlX (frSl (i + 1) r) x.2) = _
      rw [g2, h1]; rfl
    · show rowsIn (shT t) + rowsSl (frSl (i + 1) r) = _
      rw [g3, h2]; rfl
def frLs : (l : List Ty) → denL l → Nat → List AV
  | [], _, _ => []
  | t :: r, y, k => frV t y.1 k :: frLs r y.2 (k + frN t)
/-- The slots hold the answers. -/
theorem slots_frSl {e : Env} : ∀ (l : List Ty) (i k : Nat) (x : denSl (frSl i l)) (zs : List Value), zs.length = l.length → (∀ j, RV e (mkSl (frSl i l) k x (i + j)) (zs.getD j undef)) → All2 (RV e) (frLs l (unSl l i x) k) zs
  | [], _, _, _, [], _, _ => trivial
  | [], _, _, _, _ :: _, h, _ => by simp at h
  | _ :: _, _, _, _, [], h, _ => by simp at h
  | t :: r, i, k, x, z :: zs, hl, h => by
    obtain ⟨g1, _, g3⟩ := mk_frT t x.1 k
    refine ⟨?_, ?_⟩
    · have := h 0
      simp only [frSl, mkSl, Nat.add_zero, Nat.beq_refl, List.getD_cons_zero] at this
      rw [g1] at this
      exact this
    · refine slots_frSl r (i + 1) (k + frN t) x.2 zs (by simpa using hl) fun j => ?_
      have := h (j + 1)
      have hne : Nat.beq (i + (j + 1)) i = false := by
        cases hb : Nat.beq (i + (j + 1)) i with
        | false => rfl
        | true => have := Nat.eq_of_beq_eq_true hb; omega
      simp only [frSl, mkSl, hne, List.getD_cons_succ] at this
      rw [g3, show i + (j + 1) = i + 1 + j by omega] at this
      exact this
theorem RV_frAV_of {e : Env} : ∀ (l : List Ty) (y : denL l) (k : Nat) (zs : List Value), All2 (RV e) (frLs l y k) zs → RV e (frAV l y k) (resVal zs) := by
  have hvs : ∀ (l : List Ty) (y : denL l) (k : Nat) (zs : List Value), All2 (RV e) (frLs l y k) zs → RVs e (frL l y k) zs := by
    intro l
    induction l with
    | nil =>
      intro y k zs h
      cases zs with
      | nil => rfl
      | cons z zs => exact h.elim
    | cons t r ih =>
      intro y k zs h
      cases zs with
      | nil => exact h.elim
      | cons z zs =>
        obtain ⟨h1, h2⟩ := h
        obtain ⟨cs, g1, g2⟩ := h1.cells frV_no.1 frV_no.2
        exact ⟨cs, zs, by rw [g1], g2, ih y.2 _ zs h2⟩
  intro l y k zs h
  match l, y, zs, h with
  | [t], y, [z], ⟨h1, _⟩ => exact h1
  | [], y, [], _ => exact ⟨[], rfl, rfl⟩
  | t :: u :: r, y, zs, h =>
    refine ⟨zs, ?_, hvs (t :: u :: r) y k zs h⟩
    have : zs.toArray.size ≠ 1 := by
      match zs, h with
      | [], h => exact h.elim
      | [z], h => exact h.2.elim
      | _ :: _ :: _, _ => simp
    unfold resVal; rw [dif_neg this]
section
variable {P : Program} {f : Nat} {fn : Func} {body : Code} (hf : P.funcs[f]? = some fn) (hb : fn.body = some body) (hname : (fn.name == "runtime.NumGoroutine") = false)
include hf hb hname
theorem fcon_of {E : EE} {c : Con} (hE : ∀ C, C.P = P → EOK P C E) (hlp : ∀ C, C.P = P → LpOK P C fn.ntmps E) (hsp : ∀ C, C.P = P → SpOK P C fn.ntmps E body) (hdraw : P.follows .mixedOrders = true) (hargs : c.args.all plainTy = true) (hres : c.res.all frOK = true) (hn : Nat.ble c.args.length fn.ntmps = true)
    (h : ∀ x y, FineL c.args x → c.fn x = some y → evF E fn body c.args x (retF E.T fn.results.toList c.res) = some y) : FConOK P f c := by
  refine ⟨FnOK.of hf hb hname, fun t ht => List.all_eq_true.1 hargs t ht, fun t ht => List.all_eq_true.1 hres t ht, fun w I hg x xs y hI hx hc => ?_⟩
  let C : Ctx := ⟨P, w, I, hg⟩
  let e : Env := ⟨fun _ => none, w, I⟩
  have hm : MR C e (fun _ => .none) (fun _ => False) := by
    refine ⟨Blw.refl _ _, fun _ => trivial, ?_, ?_, hI, fun k hk _ => hk, ?_⟩
    · rintro k ⟨b, bt, hl, _⟩; exact hl.elim
    · intro b b' bt bt' k hl; exact hl.elim
    · intro b bt hb; cases hb
  have hlen : ∀ (l : List Ty) (x : denL l), (argVs l x).length = l.length := by
    intro l
    induction l with
    | nil => intro x; rfl
    | cons t r ih => intro x; simp [argVs, ih]
  have hfit := fit_init (n := fn.ntmps) (nx := 0) (argsRd_all (ρ := fun _ => none) c.args x xs hx) hm (by rw [hlen]; exact Nat.le_of_ble_eq_true hn)
  have hev := h x y (argsRd_fine c.args x xs hx) hc
  unfold evF at hev
  obtain ⟨r, s', ht, hk⟩ := evC_okS (hE C rfl) hdraw (hlp C rfl) body (hsp C rfl) _ _ _ _ hev
  refine calls_of_wp hf hb (ht.2 _ e _ _ (fun _ _ _ h => h) hfit fun e' a' hf' hx' hfr' => ?_)
  have hpost : r ≠ .normal ∧ r ≠ .ret ∨ (a'.defers = [] ∧ ∃ v, (results fn a'.tmps).run P e'.w = .ok v e'.w ∧ ∃ z, (Ending.returned v) = .returned z ∧ ∃ (E' : Env) (base : Nat) (m' : Mem) (U' : Nat → Prop), E'.w = e'.w ∧ MR ⟨P, w, I, hg⟩ E' m' U' ∧
      (∀ i, i < frNL c.res → m' (base + i) = nthB (frRL c.res y) i) ∧ RV E' (frAV c.res y base) z) := by
    unfold retF at hk
    split at hk
    · exact .inl ⟨by simp, by simp⟩
    · right
      split at hk
      · rename_i vs hvs
        split at hk
        · rename_i x' hlen' hrd
          cases hk
          have hlen' := Nat.eq_of_beq_eq_true hlen'
          obtain ⟨zs, hz, hall⟩ := resList_ok (hE C rfl).tab hf' _ _ hvs
          refine ⟨hf'.defers, _, results_run hz, _, rfl, ?_⟩
          have hzl := hall.length
          have hfit2 := fit_init (n := vs.length) (nx := s'.nx) hall hf'.mem (Nat.le_refl _)
          obtain ⟨e2, g1, g2, g3, g4⟩ := refitF hfit2 (base := s'.nx) (fun b hb => .inl hb) hf'.mem.nx (fun b h1 h2 h3 => by
            rcases h3 with h3 | h3
            · exact h3.elim
            · omega) (Ext.refl e') (Frm.refl e' s'.mem) hrd (s'.nx + (frD c.res).rows)
          refine ⟨e2, s'.nx, _, _, g1, g4.mem, fun i hi => ?_, ?_⟩
          · show mkMem (frD c.res) s'.nx x' (s'.nx + i) = _
            unfold mkMem
            have hle : Nat.ble s'.nx (s'.nx + i) = true := Nat.ble_eq_true_of_le (by omega)
            rw [hle]
            simp only [Nat.add_sub_cancel_left]
            have h1 := (rows_frSl c.res 0 x'.1).1
            have h2 : i < (rowsSlX (frD c.res).sl x'.1).length := by
              show i < (rowsSlX (frSl 0 c.res) x'.1).length
              rw [h1, frNL_len]; exact hi
            rw [nthB_left h2]
            show nthB (rowsSlX (frSl 0 c.res) x'.1) i = _
            rw [h1]
          · refine RV_frAV_of _ _ _ _ (slots_frSl c.res 0 s'.nx x'.1 zs (by omega) fun j => ?_)
            have := g4.slots j
            have hza : ∀ j, (zs.toArray ++ Array.replicate (vs.length - zs.toArray.size) undef).getD j undef = zs.getD j undef := by
              intro j
              have h0 : vs.length - zs.toArray.size = 0 := by simp; omega
              rw [h0, Array.getD_eq_getD_getElem?]
              simp [List.getD]
            rw [show (0 + j) = j by omega]
            have h3 : RV e2 ((mkD (frD c.res) s'.nx (s'.nx + (frD c.res).rows) x').slots j) (zs.getD j undef) := by rw [← hza]; exact this
            exact h3
        · cases hk
      · cases hk
  cases r with
  | normal => rcases hpost with h | h; exact absurd rfl h.1; exact h
  | ret => rcases hpost with h | h; exact absurd rfl h.2; exact h
  | exit id => simp [retF] at hk
end
end Go.Co
end

section
namespace Go.Co.N
open Go Go.Co

/-! ### Contracts and texts -/
def Eqs (c : Con) (g : denL c.args → Option (denL c.res)) : Prop := ∀ x y, FineL c.args x → c.fn x = some y → g x = some y
theorem Eqs.tot {c : Con} {g : denL c.args → Option (denL c.res)} (h : ∀ x, FineL c.args x → g x = c.fn x) : Eqs c g := fun x _ hf hy => (h x hf).trans hy
abbrev c_True (args : List Ty) : Con := ⟨args, [.bool], fun _ => some (true, ())⟩

/-- A text, byte by byte. -/
def bytesOf (l : List Nat) : ByteArray := ⟨(l.map UInt8.ofNat).toArray⟩

/-! ### Bounds -/
theorem i64_in (n : Int) (h : -9223372036854775808 ≤ n ∧ n ≤ 9223372036854775807) : IntKind.i64.wrap n = n := Go.IntWalk.i64_in _ (by omega)
theorem fine_i {n : Int} : Fine .i n ↔ -9223372036854775808 ≤ n ∧ n ≤ 9223372036854775807 := by
  rw [Fine.int, inKind_iff]; rfl
theorem fine_u32 {n : Int} : Fine (.int .u32) n ↔ 0 ≤ n ∧ n ≤ 4294967295 := by
  rw [Fine.int, inKind_iff]; rfl
theorem fine_u64 {n : Int} : Fine (.int .u64) n ↔ 0 ≤ n ∧ n ≤ 18446744073709551615 := by
  rw [Fine.int, inKind_iff]; rfl
abbrev I64 (n : Int) : Prop := -9223372036854775808 ≤ n ∧ n ≤ 9223372036854775807
/-! ### Arrays -/
section
variable {n : Nat} {α : Type} [Inhabited α]
theorem get_nat (a : Arr n α) (i : Nat) (h : i < n) : Arr.get a (i : Int) = a[i] := by
  unfold Arr.get
  rw [Array.getD_eq_getD_getElem?]
  simp [h]
theorem arr_ext {a b : Arr n α} (h : ∀ i : Int, 0 ≤ i → i < n → Arr.get a i = Arr.get b i) : a = b := by
  apply Vector.ext
  intro i hi
  have := h i (by omega) (by omega)
  rwa [get_nat a i hi, get_nat b i hi] at this
theorem get_put_ne (a : Arr n α) (i j : Int) (x : α) (h : i.toNat ≠ j.toNat) : Arr.get (Arr.put a i x) j = Arr.get a j := by
  unfold Arr.get Arr.put
  rw [Array.getD_eq_getD_getElem?, Array.getD_eq_getD_getElem?]
  simp [Vector.setIfInBounds, h]
theorem get_put_eq (a : Arr n α) (i : Int) (x : α) (h : i.toNat < n) : Arr.get (Arr.put a i x) i = x := by
  unfold Arr.get Arr.put
  rw [Array.getD_eq_getD_getElem?]
  simp [Vector.setIfInBounds, h]
theorem get_put (a : Arr n α) (i j : Int) (x : α) (h0 : 0 ≤ i) (h1 : i < n) (h2 : 0 ≤ j) : Arr.get (Arr.put a i x) j = if i = j then x else Arr.get a j := by
  split
  · rename_i h; subst h; exact get_put_eq a i x (by omega)
  · exact get_put_ne a i j x (by omega)
theorem get_make (f : Nat → α) (i : Int) (h0 : 0 ≤ i) (h1 : i < n) : Arr.get (Arr.make (n := n) f) i = f i.toNat := by
  have hi : i.toNat < n := by omega
  unfold Arr.get Arr.make
  rw [Array.getD_eq_getD_getElem?]
  simp [hi]
theorem get_rep (x : α) (i : Int) (h0 : 0 ≤ i) (h1 : i < n) : Arr.get (Vector.replicate n x : Arr n α) i = x := by
  have hi : i.toNat < n := by omega
  unfold Arr.get
  rw [Array.getD_eq_getD_getElem?]
  simp [hi]
end
section
variable {n : Nat} {α : Type} [Inhabited α]
/-- An array that is filled up to a place. -/
def fillTo (z : α) (g : Nat → α) (i : Nat) : Arr n α := Arr.make fun j => if j < i then g j else z
theorem fill_0 (z : α) (g : Nat → α) : (fillTo z g 0 : Arr n α) = Vector.replicate n z := arr_ext fun i h0 h1 => by
  rw [fillTo, get_make _ _ h0 h1, if_neg (by omega), get_rep _ _ h0 h1]
theorem fill_n (z : α) (g : Nat → α) : (fillTo z g n : Arr n α) = Arr.make g := arr_ext fun i h0 h1 => by
  rw [fillTo, get_make _ _ h0 h1, if_pos (by omega), get_make _ _ h0 h1]
theorem fill_put (z : α) (g : Nat → α) (i : Nat) (h : i < n) : Arr.put (fillTo z g i : Arr n α) (i : Int) (g i) = fillTo z g (i + 1) := arr_ext fun j h0 h1 => by
  rw [get_put _ _ _ _ (by omega) (by omega) h0, fillTo, fillTo, get_make _ _ h0 h1, get_make _ _ h0 h1]
  by_cases hj : (i : Int) = j
  · subst hj; simp
  · rw [if_neg hj]
    by_cases hl : j.toNat < i
    · rw [if_pos hl, if_pos (by omega)]
    · rw [if_neg hl, if_neg (by omega)]
end
theorem lat_nat {α : Type} [Inhabited α] (l : List α) (i : Nat) (h : i < l.length) : lat l (i : Int) = l[i] := by
  unfold lat
  rw [List.getD_eq_getElem?_getD]
  simp [h]

theorem inr {n : Int} {i : Nat} {m : Int} (h : (i : Int) < m) (hn : m ≤ n) : (decide (0 ≤ (i : Int)) && decide ((i : Int) < n)) = true := by simp; omega
theorem wrap1 (i : Nat) (h : i < 1000000) : IntKind.i64.wrap ((i : Int) + 1) = ((i + 1 : Nat) : Int) := by rw [i64_in _ (by omega)]; omega
/-! ### All of n, any of n -/
def allN : Nat → (Nat → Bool) → Bool
  | 0, _ => true
  | n + 1, p => allN n p && p n
theorem allN_iff {n : Nat} {p : Nat → Bool} : allN n p = true ↔ ∀ i, i < n → p i = true := by
  induction n with
  | zero => simp [allN]
  | succ n ih =>
    simp only [allN, Bool.and_eq_true, ih]
    constructor
    · rintro ⟨h1, h2⟩ i hi
      by_cases he : i = n
      · subst he; exact h2
      · exact h1 i (by omega)
    · intro h; exact ⟨fun i hi => h i (by omega), h n (by omega)⟩
def anyN (n : Nat) (p : Nat → Bool) : Bool := !allN n fun i => !p i
theorem anyN_iff {n : Nat} {p : Nat → Bool} : anyN n p = true ↔ ∃ i, i < n ∧ p i = true := by
  unfold anyN
  cases h : allN n fun i => !p i with
  | true =>
    have := allN_iff.1 h
    simp only [Bool.not_true, Bool.false_eq_true, false_iff]
    rintro ⟨i, hi, hp⟩
    have := this i hi
    rw [hp] at this; cases this
  | false =>
    simp only [Bool.not_false, true_iff]
    by_cases he : ∃ i, i < n ∧ p i = true
    · exact he
    · have : allN n (fun i => !p i) = true := allN_iff.2 fun i hi => by
        cases hp : p i with
        | false => rfl
        | true => exact absurd ⟨i, hi, hp⟩ he
      rw [this] at h; cases h
theorem anyN_false {n : Nat} {p : Nat → Bool} : anyN n p = false ↔ ∀ i, i < n → p i = false := by
  cases h : anyN n p with
  | true =>
    obtain ⟨i, hi, hp⟩ := anyN_iff.1 h
    simp only [Bool.true_eq_false, false_iff]
    intro g; rw [g i hi] at hp; cases hp
  | false =>
    simp only [true_iff]
    intro i hi
    cases hp : p i with
    | false => rfl
    | true => rw [anyN_iff.2 ⟨i, hi, hp⟩] at h; cases h
theorem bool_eq {a b : Bool} (h : a = true ↔ b = true) : a = b := by cases a <;> cases b <;> simp_all
/-- The first one of n. -/
def fstN : Nat → (Nat → Bool) → Nat → Option Nat
  | 0, _, _ => none
  | d + 1, p, i => if p i = true then some i else fstN d p (i + 1)
theorem fstN_some {p : Nat → Bool} : ∀ {d i j : Nat}, fstN d p i = some j → i ≤ j ∧ j < i + d ∧ p j = true ∧ ∀ k, i ≤ k → k < j → p k = false
  | 0, i, j, h => by simp [fstN] at h
  | d + 1, i, j, h => by
    simp only [fstN] at h
    split at h
    · rename_i hp; cases h; exact ⟨Nat.le_refl _, by omega, hp, fun k h1 h2 => by omega⟩
    · rename_i hp
      obtain ⟨h1, h2, h3, h4⟩ := fstN_some h
      refine ⟨by omega, by omega, h3, fun k hk hk2 => ?_⟩
      by_cases he : k = i
      · subst he; simpa using hp
      · exact h4 k (by omega) hk2
theorem fstN_none {p : Nat → Bool} : ∀ {d i : Nat}, fstN d p i = none → ∀ k, i ≤ k → k < i + d → p k = false
  | 0, i, _ => by omega
  | d + 1, i, h => by
    simp only [fstN] at h
    split at h
    · cases h
    · rename_i hp
      intro k hk hk2
      by_cases he : k = i
      · subst he; simpa using hp
      · exact fstN_none h k (by omega) (by omega)

/-! ### Loops told by their states -/
section
variable {X Z A : Type} {f : X → Option (X ⊕ Z)}
theorem lfp_run (S : Nat → X) : ∀ (n i : Nat), (∀ j, i ≤ j → j < i + n → f (S j) = some (.inl (S (j + 1)))) → lfp f (S i) = lfp f (S (i + n))
  | 0, i, _ => rfl
  | n + 1, i, h => by
    rw [lfp_inl (h i (Nat.le_refl _) (by omega)), lfp_run S n (i + 1) fun j h1 h2 => h j (by omega) (by omega)]
    congr 2; omega
/-- A loop that ends at the first place that is bad. -/
theorem lfp_find (S : Nat → X) (n : Nat) (bad : Nat → Bool) (E : Nat → Z) (z : Z)
    (h1 : ∀ i, i < n → bad i = false → f (S i) = some (.inl (S (i + 1)))) (h2 : ∀ i, i < n → bad i = true → f (S i) = some (.inr (E i))) (h3 : f (S n) = some (.inr z)) :
    lfp f (S 0) = some (match fstN n bad 0 with | some i => E i | none => z) := by
  have main : ∀ d i, i + d = n → lfp f (S i) = some (match fstN d bad i with | some i => E i | none => z) := by
    intro d
    induction d with
    | zero => intro i hi; have : i = n := by omega
              subst this; exact lfp_inr h3
    | succ d ih =>
      intro i hi
      simp only [fstN]
      cases hb : bad i with
      | true => simp only [if_true]; exact lfp_inr (h2 i (by omega) hb)
      | false =>
        simp only [Bool.false_eq_true, if_false]
        rw [lfp_inl (h1 i (by omega) hb)]
        exact ih (i + 1) (by omega)
  exact main n 0 (by omega)
/-- The same, if all ways out that are bad lead to one end. -/
theorem lfp_all (S : Nat → X) (n : Nat) (ok : Nat → Bool) (e z : Z)
    (h1 : ∀ i, i < n → ok i = true → f (S i) = some (.inl (S (i + 1)))) (h2 : ∀ i, i < n → ok i = false → f (S i) = some (.inr e)) (h3 : f (S n) = some (.inr z)) :
    lfp f (S 0) = some (bif allN n ok then z else e) := by
  rw [lfp_find S n (fun i => !ok i) (fun _ => e) z (fun i hi hb => h1 i hi (by simpa using hb)) (fun i hi hb => h2 i hi (by simpa using hb)) h3]
  cases hf : fstN n (fun i => !ok i) 0 with
  | some i =>
    obtain ⟨_, hi, hb, _⟩ := fstN_some hf
    have : allN n ok = false := Bool.eq_false_iff.2 fun h => by
      have := allN_iff.1 h i (by omega)
      rw [this] at hb; cases hb
    rw [this]; rfl
  | none =>
    have := fstN_none hf
    rw [allN_iff.2 fun i hi => by have := this i (Nat.zero_le _) (by omega); simpa using this]; rfl
theorem lfp_run' (S : Nat → X) (n : Nat) {x : X} (h0 : x = S 0) (h : ∀ j, j < n → f (S j) = some (.inl (S (j + 1)))) : lfp f x = lfp f (S n) := by
  rw [h0, lfp_run S n 0 fun j _ hj => h j (by omega)]; simp
theorem lfp_find' (S : Nat → X) (n : Nat) (bad : Nat → Bool) (E : Nat → Z) (z : Z) {x : X} (h0 : x = S 0)
    (h1 : ∀ i, i < n → bad i = false → f (S i) = some (.inl (S (i + 1)))) (h2 : ∀ i, i < n → bad i = true → f (S i) = some (.inr (E i))) (h3 : f (S n) = some (.inr z)) :
    lfp f x = some (match fstN n bad 0 with | some i => E i | none => z) := by rw [h0]; exact lfp_find S n bad E z h1 h2 h3
theorem lfp_all' (S : Nat → X) (n : Nat) (ok : Nat → Bool) (e z : Z) {x : X} (h0 : x = S 0)
    (h1 : ∀ i, i < n → ok i = true → f (S i) = some (.inl (S (i + 1)))) (h2 : ∀ i, i < n → ok i = false → f (S i) = some (.inr e)) (h3 : f (S n) = some (.inr z)) :
    lfp f x = some (bif allN n ok then z else e) := by rw [h0]; exact lfp_all S n ok e z h1 h2 h3
/-- The same, where each place may count on those before it. -/
theorem lfp_allH (S : Nat → X) (n : Nat) (ok : Nat → Bool) (e z : Z) {x : X} (h0 : x = S 0)
    (h1 : ∀ i, i < n → (∀ j, j < i → ok j = true) → ok i = true → f (S i) = some (.inl (S (i + 1)))) (h2 : ∀ i, i < n → (∀ j, j < i → ok j = true) → ok i = false → f (S i) = some (.inr e)) (h3 : f (S n) = some (.inr z)) :
    lfp f x = some (bif allN n ok then z else e) := by
  have main : ∀ d i, i + d = n → (∀ j, j < i → ok j = true) → lfp f (S i) = some (bif allN n ok then z else e) := by
    intro d
    induction d with
    | zero =>
      intro i hi hj
      have : i = n := by omega
      subst this
      rw [allN_iff.2 hj]; exact lfp_inr h3
    | succ d ih =>
      intro i hi hj
      cases hok : ok i with
      | true =>
        rw [lfp_inl (h1 i (by omega) hj hok)]
        refine ih (i + 1) (by omega) fun j hj2 => ?_
        by_cases he : j = i
        · subst he; exact hok
        · exact hj j (by omega)
      | false =>
        have : allN n ok = false := Bool.eq_false_iff.2 fun h => by
          rw [allN_iff.1 h i (by omega)] at hok; cases hok
        rw [this]; exact lfp_inr (h2 i (by omega) hj hok)
  rw [h0]; exact main n 0 (by omega) fun j hj => by omega
/-- Steps of a loop with something carried on. -/
def steps (step : Nat → A → A ⊕ Z) : Nat → Nat → A → A ⊕ Z
  | 0, _, a => .inl a
  | d + 1, i, a => match step i a with
    | .inl a => steps step d (i + 1) a
    | .inr z => .inr z
end
end Go.Co.N
end

section
namespace Go.Co.N
open Go Go.Co

/-! ### Keys -/
def good (k : Key) : Bool := decide (1 ≤ k.Base) && decide (k.Base ≤ 65535) && decide (0 ≤ k.Step) && decide (k.Step ≤ 255)
theorem good_iff {k : Key} : good k = true ↔ 1 ≤ k.Base ∧ k.Base ≤ 65535 ∧ 0 ≤ k.Step ∧ k.Step ≤ 255 := by
  simp [good, and_assoc]
abbrev c_key_Good : Con := ⟨[.st .key], [.bool], fun x => some (good x.1, ())⟩
abbrev c_ref02_Good : Con := ⟨[.st .key], [.bool], fun x => some (good x.1, ())⟩
/-- The key n steps on. -/
def ahead (k : Key) (n : Int) : Key × Int :=
  if good k = true then if 0 ≤ n ∧ k.Step + n ≤ 255 then (⟨k.Base, k.Step + n⟩, 0) else (⟨0, 0⟩, 4) else (⟨0, 0⟩, 3)
abbrev c_key_Ahead : Con := ⟨[.st .key, .i], [.st .key, .i], fun x => some ((ahead x.1 x.2.1).1, (ahead x.1 x.2.1).2, ())⟩
abbrev c_ref02_Ahead : Con := ⟨[.st .key, .i], [.st .key, .i], fun x => some ((ahead x.1 x.2.1).1, (ahead x.1 x.2.1).2, ())⟩
def gives (a b : Key) : Bool := good a && good b && decide (a.Base = b.Base) && decide (a.Step ≤ b.Step)
/-! ### Masks of inner nodes -/
/-- Is the node in the mask? -/
def inB (m v : Int) : Bool := decide (0 ≤ v) && decide (v < 32) && decide (m / 2 ^ v.toNat % 2 = 1)
abbrev c_ref01_In : Con := ⟨[.int .u32, .i], [.bool], fun x => some (inB x.1 x.2.1, ())⟩
/-- How many of the nodes below n are in the mask. -/
def cntTo (m : Int) : Nat → Int
  | 0 => 0
  | n + 1 => cntTo m n + (if inB m (n : Int) = true then 1 else 0)
abbrev c_ref10_count : Con := ⟨[.int .u32], [.i], fun x => some (cntTo x.1 21, ())⟩
abbrev c_bits_OnesCount32 : Con := ⟨[.int .u32], [.i], fun x => some (cntTo x.1 32, ())⟩

/-! ### The ratchet -/
abbrev bas (k : Keys) (i : Int) : Int := (Arr.get k i).Base
abbrev stp (k : Keys) (i : Int) : Int := (Arr.get k i).Step
def okAt (k : Keys) (v : Nat) : Bool := good (Arr.get k v) && decide (bas k v < 32768) && allN v fun w => !decide (bas k w = bas k v)
def goodKeys (k : Keys) : Bool := allN 21 (okAt k)
theorem okAt_iff {k : Keys} {v : Nat} : okAt k v = true ↔ good (Arr.get k v) = true ∧ bas k v < 32768 ∧ ∀ w, w < v → bas k w ≠ bas k v := by
  unfold okAt
  simp [allN_iff, and_assoc]
theorem goodKeys_iff {k : Keys} : goodKeys k = true ↔ ∀ v : Nat, v < 21 → good (Arr.get k v) = true ∧ bas k v < 32768 ∧ ∀ w, w < v → bas k w ≠ bas k v := by
  unfold goodKeys; rw [allN_iff]
  exact ⟨fun h v hv => okAt_iff.1 (h v hv), fun h v hv => okAt_iff.2 (h v hv)⟩
def chk (k : Keys) : Int := bif goodKeys k then 0 else 31
abbrev c_ratchet_Check : Con := ⟨[.arr 21 (.st .key)], [.i], fun x => some (chk x.1, ())⟩
abbrev c_ref10_Check : Con := ⟨[.arr 21 (.st .key)], [.i], fun x => some (chk x.1, ())⟩
/-- May these names be given? -/
def free (k : Keys) (f n : Int) : Bool := decide (n = 0) || (decide (1 ≤ f) && decide (f ≤ 32768 - n) && allN 21 fun v => !(decide (f ≤ bas k v) && decide (bas k v < f + n)))
abbrev c_ratchet_free : Con := ⟨[.arr 21 (.st .key), .i, .i], [.bool], fun x => guardK (decide (0 ≤ (x.2.2.1 : Int)) && decide ((x.2.2.1 : Int) ≤ 32)) (some (free x.1 x.2.1 x.2.2.1, ()))⟩
abbrev zeroK : Keys := Vector.replicate 21 St.key.zero
/-- A node's key behind a turn. -/
def turnedAt (k : Keys) (m f : Int) (v : Nat) : Key := if inB m v = true then ⟨f + (cntTo m 21 - cntTo m (v + 1)), 0⟩ else ⟨bas k v, stp k v + 1⟩
def turned (k : Keys) (m f : Int) : Keys := Arr.make (turnedAt k m f)
def turn (k : Keys) (m f : Int) : Keys × Int × Int :=
  bif goodKeys k then
    bif decide (m < 2097152) then
      bif free k f (cntTo m 21) then
        bif allN 21 (fun v => inB m v || decide (stp k v < 255)) then (turned k m f, f + cntTo m 21, 0) else (zeroK, 0, 4)
      else (zeroK, 0, 3)
    else (zeroK, 0, 2)
  else (zeroK, 0, 31)
abbrev c_ratchet_Turn : Con := ⟨[.arr 21 (.st .key), .int .u32, .i], [.arr 21 (.st .key), .i, .i], fun x => some ((turn x.1 x.2.1 x.2.2.1).1, (turn x.1 x.2.1 x.2.2.1).2.1, (turn x.1 x.2.1 x.2.2.1).2.2, ())⟩
abbrev c_ref10_Turn : Con := ⟨[.arr 21 (.st .key), .int .u32, .i], [.arr 21 (.st .key), .i, .i], fun x => some ((turn x.1 x.2.1 x.2.2.1).1, (turn x.1 x.2.1 x.2.2.1).2.1, (turn x.1 x.2.1 x.2.2.1).2.2, ())⟩
def leafAt (e : Entry) (n : Int) : Key × Int :=
  if e.Base = 0 then (⟨0, 0⟩, 16)
  else if e.Base < 1 ∨ 32768 ≤ e.Base ∨ e.Since < 1 ∨ 200 < e.Since then (⟨0, 0⟩, 31)
  else if n < e.Since then (⟨0, 0⟩, 21)
  else if e.Since + 255 < n then (⟨0, 0⟩, 4)
  else (⟨e.Base, n - e.Since⟩, 0)
abbrev c_ratchet_LeafAt : Con := ⟨[.st .entry, .i], [.st .key, .i], fun x => some ((leafAt x.1 x.2.1).1, (leafAt x.1 x.2.1).2, ())⟩
abbrev zeroP : Path := Vector.replicate 3 St.key.zero
/-! ### The laws of chapter 10 -/
def plain (s : Int) : Keys := Arr.make fun v => ⟨v + 1, s⟩
end Go.Co.N
end

section
set_option maxRecDepth 100000
noncomputable section
namespace Go.Co.N
open Go Go.Co
/-- coterie/key.Good -/
def g_key_Good : Key × Unit → Option (Bool × Unit)
  | (a, _) => bif decide (0 < a.Base) then bif decide (a.Base ≤ 65535) then bif decide (0 ≤ a.Step) then some (decide (a.Step ≤ 255), ()) else some (false, ()) else some (false, ()) else some (false, ())
/-- coterie/coterieref02.Good -/
def g_ref02_Good : Key × Unit → Option (Bool × Unit)
  | (a, _) => bif decide (1 ≤ a.Base) then bif decide (a.Base ≤ 65535) then bif decide (0 ≤ a.Step) then some (decide (a.Step ≤ 255), ()) else some (false, ()) else some (false, ()) else some (false, ())
/-- coterie/key.Ahead -/
def g_key_Ahead : Key × Int × Unit → Option (Key × Int × Unit)
  | (a, b, _) => bif !good a then some (Key.mk 0 0, 3, ()) else bif decide (b < 0) then some (Key.mk 0 0, 4, ()) else bif decide (IntKind.wrap IntKind.i64 (255 - a.Step) < b) then some (Key.mk 0 0, 4, ()) else some (Key.mk a.Base (IntKind.wrap IntKind.i64 (a.Step + b)), 0, ())
def g_ref02_Ahead_r1 : (Int × Unit × Unit × Int × Unit) × (Key × Key × Unit) × Unit → Option (((Int × Unit × Unit × Int × Unit) × (Key × Key × Unit) × Unit) ⊕ ((Unit × Unit × Unit) × (Key × Key × Unit) × Unit))
  | ((a, _, _, b, _), (c, d, _), _) => bif decide (b < a) then some (Sum.inl ((a, (), (), IntKind.wrap IntKind.i64 (b + 1), ()), (Key.mk c.Base (IntKind.wrap IntKind.i64 (c.Step + 1)), d, ()), ())) else some (Sum.inr (((), (), ()), (c, d, ()), ()))
/-- coterie/coterieref02.Ahead -/
def g_ref02_Ahead : Key × Int × Unit → Option (Key × Int × Unit)
  | (a, b, _) => bif !good a then some (Key.mk 0 0, 3, ()) else bif decide (b < 0) then some (Key.mk 0 0, 4, ()) else bif decide (255 < b) then some (Key.mk 0 0, 4, ()) else Option.bind (lfp g_ref02_Ahead_r1 ((b, (), (), 0, ()), (a, St.zero St.key, ()), ())) fun z => bif !good z.snd.fst.fst then some (Key.mk 0 0, 4, ()) else some (z.snd.fst.fst, 0, ())
def g_ref01_In_r1 : (Int × Int × Int × Unit) × Unit × Unit → Option (((Int × Int × Int × Unit) × Unit × Unit) ⊕ ((Int × Unit) × Unit × Unit))
  | ((a, b, c, _), _, _) => bif decide (c < b) then some (Sum.inl ((IntKind.wrap IntKind.u32 (Int.tdiv a 2), b, IntKind.wrap IntKind.i64 (c + 1), ()), (), ())) else some (Sum.inr ((a, ()), (), ()))
/-- coterie/coterieref01.In -/
def g_ref01_In : Int × Int × Unit → Option (Bool × Unit)
  | (a, b, _) => bif decide (b < 0) then some (false, ()) else bif decide (32 ≤ b) then some (false, ()) else Option.bind (lfp g_ref01_In_r1 ((a, b, 0, ()), (), ())) fun z => some (decide (Int.tmod z.fst.fst 2 = 1), ())
def g_ref10_count_r1 : (Int × Int × Int × Unit) × Unit × Unit → Option (((Int × Int × Int × Unit) × Unit × Unit) ⊕ ((Int × Unit) × Unit × Unit))
  | ((a, b, c, _), _, _) => bif decide (c < 21) then bif inB a c then some (Sum.inl ((a, IntKind.wrap IntKind.i64 (b + 1), IntKind.wrap IntKind.i64 (c + 1), ()), (), ())) else some (Sum.inl ((a, b, IntKind.wrap IntKind.i64 (c + 1), ()), (), ())) else some (Sum.inr ((b, ()), (), ()))
/-- coterie/coterieref10.count -/
def g_ref10_count : Int × Unit → Option (Int × Unit)
  | (a, _) => Option.bind (lfp g_ref10_count_r1 ((a, 0, 0, ()), (), ())) fun z => some (z.fst.fst, ())
/-- math/bits.OnesCount32 -/
def g_bits_OnesCount32 : Int × Unit → Option (Int × Unit)
  | (a, _) => bif decide (0 ≤ shrI IntKind.u32 a 24) && decide (shrI IntKind.u32 a 24 < 256) then bif decide (0 ≤ bw BinOp.and IntKind.u32 (shrI IntKind.u32 a 16) 255) && decide (bw BinOp.and IntKind.u32 (shrI IntKind.u32 a 16) 255 < 256) then bif decide (0 ≤ bw BinOp.and IntKind.u32 (shrI IntKind.u32 a 8) 255) && decide (bw BinOp.and IntKind.u32 (shrI IntKind.u32 a 8) 255 < 256) then bif decide (0 ≤ bw BinOp.and IntKind.u32 a 255) && decide (bw BinOp.and IntKind.u32 a 255 < 256) then some (IntKind.wrap IntKind.i64 (IntKind.wrap IntKind.u8 (IntKind.wrap IntKind.u8 (IntKind.wrap IntKind.u8 (bat (bytesOf [0, 1, 1, 2, 1, 2, 2, 3, 1, 2, 2, 3, 2, 3, 3, 4, 1, 2, 2, 3, 2, 3, 3, 4, 2, 3, 3, 4, 3, 4, 4, 5, 1, 2, 2, 3, 2, 3, 3, 4, 2, 3, 3, 4, 3, 4, 4, 5, 2, 3, 3, 4, 3, 4, 4, 5, 3, 4, 4, 5, 4, 5, 5, 6, 1, 2, 2, 3, 2, 3, 3, 4, 2, 3, 3, 4, 3, 4, 4, 5, 2, 3, 3, 4, 3, 4, 4, 5, 3, 4, 4, 5, 4, 5, 5, 6, 2, 3, 3, 4, 3, 4, 4, 5, 3, 4, 4, 5, 4, 5, 5, 6, 3, 4, 4, 5, 4, 5, 5, 6, 4, 5, 5, 6, 5, 6, 6, 7, 1, 2, 2, 3, 2, 3, 3, 4, 2, 3, 3, 4, 3, 4, 4, 5, 2, 3, 3, 4, 3, 4, 4, 5, 3, 4, 4, 5, 4, 5, 5, 6, 2, 3, 3, 4, 3, 4, 4, 5, 3, 4, 4, 5, 4, 5, 5, 6, 3, 4, 4, 5, 4, 5, 5, 6, 4, 5, 5, 6, 5, 6, 6, 7, 2, 3, 3, 4, 3, 4, 4, 5, 3, 4, 4, 5, 4, 5, 5, 6, 3, 4, 4, 5, 4, 5, 5, 6, 4, 5, 5, 6, 5, 6, 6, 7, 3, 4, 4, 5, 4, 5, 5, 6, 4, 5, 5, 6, 5, 6, 6, 7, 4, 5, 5, 6, 5, 6, 6, 7, 5, 6, 6, 7, 6, 7, 7, 8]) (shrI IntKind.u32 a 24) + bat (bytesOf [0, 1, 1, 2, 1, 2, 2, 3, 1, 2, 2, 3, 2, 3, 3, 4, 1, 2, 2, 3, 2, 3, 3, 4, 2, 3, 3, 4, 3, 4, 4, 5, 1, 2, 2, 3, 2, 3, 3, 4, 2, 3, 3, 4, 3, 4, 4, 5, 2, 3, 3, 4, 3, 4, 4, 5, 3, 4, 4, 5, 4, 5, 5, 6, 1, 2, 2, 3, 2, 3, 3, 4, 2, 3, 3, 4, 3, 4, 4, 5, 2, 3, 3, 4, 3, 4, 4, 5, 3, 4, 4, 5, 4, 5, 5, 6, 2, 3, 3, 4, 3, 4, 4, 5, 3, 4, 4, 5, 4, 5, 5, 6, 3, 4, 4, 5, 4, 5, 5, 6, 4, 5, 5, 6, 5, 6, 6, 7, 1, 2, 2, 3, 2, 3, 3, 4, 2, 3, 3, 4, 3, 4, 4, 5, 2, 3, 3, 4, 3, 4, 4, 5, 3, 4, 4, 5, 4, 5, 5, 6, 2, 3, 3, 4, 3, 4, 4, 5, 3, 4, 4, 5, 4, 5, 5, 6, 3, 4, 4, 5, 4, 5, 5, 6, 4, 5, 5, 6, 5, 6, 6, 7, 2, 3, 3, 4, 3, 4, 4, 5, 3, 4, 4, 5, 4, 5, 5, 6, 3, 4, 4, 5, 4, 5, 5, 6, 4, 5, 5, 6, 5, 6, 6, 7, 3, 4, 4, 5, 4, 5, 5, 6, 4, 5, 5, 6, 5, 6, 6, 7, 4, 5, 5, 6, 5, 6, 6, 7, 5, 6, 6, 7, 6, 7, 7, 8]) (bw BinOp.and IntKind.u32 (shrI IntKind.u32 a 16) 255)) + bat (bytesOf [0, 1, 1, 2, 1, 2, 2, 3, 1, 2, 2, 3, 2, 3, 3, 4, 1, 2, 2, 3, 2, 3, 3, 4, 2, 3, 3, 4, 3, 4, 4, 5, 1, 2, 2, 3, 2, 3, 3, 4, 2, 3, 3, 4, 3, 4, 4, 5, 2, 3, 3, 4, 3, 4, 4, 5, 3, 4, 4, 5, 4, 5, 5, 6, 1, 2, 2, 3, 2, 3, 3, 4, 2, 3, 3, 4, 3, 4, 4, 5, 2, 3, 3, 4, 3, 4, 4, 5, 3, 4, 4, 5, 4, 5, 5, 6, 2, 3, 3, 4, 3, 4, 4, 5, 3, 4, 4, 5, 4, 5, 5, 6, 3, 4, 4, 5, 4, 5, 5, 6, 4, 5, 5, 6, 5, 6, 6, 7, 1, 2, 2, 3, 2, 3, 3, 4, 2, 3, 3, 4, 3, 4, 4, 5, 2, 3, 3, 4, 3, 4, 4, 5, 3, 4, 4, 5, 4, 5, 5, 6, 2, 3, 3, 4, 3, 4, 4, 5, 3, 4, 4, 5, 4, 5, 5, 6, 3, 4, 4, 5, 4, 5, 5, 6, 4, 5, 5, 6, 5, 6, 6, 7, 2, 3, 3, 4, 3, 4, 4, 5, 3, 4, 4, 5, 4, 5, 5, 6, 3, 4, 4, 5, 4, 5, 5, 6, 4, 5, 5, 6, 5, 6, 6, 7, 3, 4, 4, 5, 4, 5, 5, 6, 4, 5, 5, 6, 5, 6, 6, 7, 4, 5, 5, 6, 5, 6, 6, 7, 5, 6, 6, 7, 6, 7, 7, 8]) (bw BinOp.and IntKind.u32 (shrI IntKind.u32 a 8) 255)) + bat (bytesOf [0, 1, 1, 2, 1, 2, 2, 3, 1, 2, 2, 3, 2, 3, 3, 4, 1, 2, 2, 3, 2, 3, 3, 4, 2, 3, 3, 4, 3, 4, 4, 5, 1, 2, 2, 3, 2, 3, 3, 4, 2, 3, 3, 4, 3, 4, 4, 5, 2, 3, 3, 4, 3, 4, 4, 5, 3, 4, 4, 5, 4, 5, 5, 6, 1, 2, 2, 3, 2, 3, 3, 4, 2, 3, 3, 4, 3, 4, 4, 5, 2, 3, 3, 4, 3, 4, 4, 5, 3, 4, 4, 5, 4, 5, 5, 6, 2, 3, 3, 4, 3, 4, 4, 5, 3, 4, 4, 5, 4, 5, 5, 6, 3, 4, 4, 5, 4, 5, 5, 6, 4, 5, 5, 6, 5, 6, 6, 7, 1, 2, 2, 3, 2, 3, 3, 4, 2, 3, 3, 4, 3, 4, 4, 5, 2, 3, 3, 4, 3, 4, 4, 5, 3, 4, 4, 5, 4, 5, 5, 6, 2, 3, 3, 4, 3, 4, 4, 5, 3, 4, 4, 5, 4, 5, 5, 6, 3, 4, 4, 5, 4, 5, 5, 6, 4, 5, 5, 6, 5, 6, 6, 7, 2, 3, 3, 4, 3, 4, 4, 5, 3, 4, 4, 5, 4, 5, 5, 6, 3, 4, 4, 5, 4, 5, 5, 6, 4, 5, 5, 6, 5, 6, 6, 7, 3, 4, 4, 5, 4, 5, 5, 6, 4, 5, 5, 6, 5, 6, 6, 7, 4, 5, 5, 6, 5, 6, 6, 7, 5, 6, 6, 7, 6, 7, 7, 8]) (bw BinOp.and IntKind.u32 a 255))), ()) else none else none else none else none
def g_ratchet_Check_r1 : (Unit × Vector Key 21 × Int × Unit) × Unit × List (Int × Int) × Unit → Option (((Unit × Vector Key 21 × Int × Unit) × Unit × List (Int × Int) × Unit) ⊕ ((Int × Unit) × Unit × Unit ⊕ Unit × Unit × Unit))
  | ((_, a, b, _), _, c, _) => bif decide (b < 21) then bif decide (0 ≤ b) && decide (b < 21) then bif !good (Arr.get a b) then some (Sum.inr (Sum.inl ((31, ()), (), ()))) else bif decide (32768 ≤ (Arr.get a b).Base) then some (Sum.inr (Sum.inl ((31, ()), (), ()))) else bif decide (1 < Option.getD (mget (mput c (Arr.get a b).Base (IntKind.wrap IntKind.i64 (Option.getD (mget c (Arr.get a b).Base) 0 + 1))) (Arr.get a b).Base) 0) then some (Sum.inr (Sum.inl ((31, ()), (), ()))) else some (Sum.inl (((), a, IntKind.wrap IntKind.i64 (b + 1), ()), (), mput c (Arr.get a b).Base (IntKind.wrap IntKind.i64 (Option.getD (mget c (Arr.get a b).Base) 0 + 1)), ())) else none else some (Sum.inr (Sum.inr ((), (), ())))
/-- coterie/ratchet.Check -/
def g_ratchet_Check : Vector Key 21 × Unit → Option (Int × Unit)
  | (a, _) => Option.bind (lfp g_ratchet_Check_r1 (((), a, 0, ()), (), [], ())) fun z => Sum.elim (fun x => some (x.fst.fst, ())) (fun _ => some (0, ())) z
def g_ref10_Check_r2 : (Unit × Int × Int × Unit) × (Vector Key 21 × Unit) × Unit → Option (((Unit × Int × Int × Unit) × (Vector Key 21 × Unit) × Unit) ⊕ ((Int × Unit) × Unit × Unit ⊕ (Unit × Int × Unit) × (Vector Key 21 × Unit) × Unit))
  | ((_, a, b, _), (c, _), _) => bif decide (b < a) then bif decide (0 ≤ b) && decide (b < 21) then bif decide (0 ≤ a) && decide (a < 21) then bif decide ((Arr.get c b).Base = (Arr.get c a).Base) then some (Sum.inr (Sum.inl ((31, ()), (), ()))) else some (Sum.inl (((), a, IntKind.wrap IntKind.i64 (b + 1), ()), (c, ()), ())) else none else none else some (Sum.inr (Sum.inr (((), a, ()), (c, ()), ())))
def g_ref10_Check_r1 : (Unit × Int × Unit) × (Vector Key 21 × Unit) × Unit → Option (((Unit × Int × Unit) × (Vector Key 21 × Unit) × Unit) ⊕ ((Int × Unit) × Unit × Unit ⊕ Unit × Unit × Unit))
  | ((_, a, _), (b, _), _) => bif decide (a < 21) then bif decide (0 ≤ a) && decide (a < 21) then bif !good (Arr.get b a) then some (Sum.inr (Sum.inl ((31, ()), (), ()))) else bif decide (0 ≤ a) && decide (a < 21) then bif decide (32768 ≤ (Arr.get b a).Base) then some (Sum.inr (Sum.inl ((31, ()), (), ()))) else Option.bind (lfp g_ref10_Check_r2 (((), a, 0, ()), (b, ()), ())) fun z => Sum.elim (fun x => some (Sum.inr (Sum.inl ((x.fst.fst, ()), (), ())))) (fun z => some (Sum.inl (((), IntKind.wrap IntKind.i64 (z.fst.snd.fst + 1), ()), (z.snd.fst.fst, ()), ()))) z else none else none else some (Sum.inr (Sum.inr ((), (), ())))
/-- coterie/coterieref10.Check -/
def g_ref10_Check : Vector Key 21 × Unit → Option (Int × Unit)
  | (a, _) => Option.bind (lfp g_ref10_Check_r1 (((), 0, ()), (a, ()), ())) fun z => Sum.elim (fun x => some (x.fst.fst, ())) (fun _ => some (0, ())) z
def g_ratchet_free_r1 : (Int × Int × Vector Key 21 × Int × Unit) × Unit × Unit → Option (((Int × Int × Vector Key 21 × Int × Unit) × Unit × Unit) ⊕ ((Bool × Unit) × Unit × Unit ⊕ Unit × Unit × Unit))
  | ((a, b, c, d, _), _, _) => bif decide (d < 21) then bif decide (0 ≤ d) && decide (d < 21) then bif decide (a ≤ (Arr.get c d).Base) then bif decide ((Arr.get c d).Base < IntKind.wrap IntKind.i64 (a + b)) then some (Sum.inr (Sum.inl ((false, ()), (), ()))) else some (Sum.inl ((a, b, c, IntKind.wrap IntKind.i64 (d + 1), ()), (), ())) else some (Sum.inl ((a, b, c, IntKind.wrap IntKind.i64 (d + 1), ()), (), ())) else none else some (Sum.inr (Sum.inr ((), (), ())))
/-- coterie/ratchet.free -/
def g_ratchet_free : Vector Key 21 × Int × Int × Unit → Option (Bool × Unit)
  | (a, b, c, _) => bif decide (c = 0) then some (true, ()) else bif decide (b < 1) then some (false, ()) else bif decide (IntKind.wrap IntKind.i64 (32768 - c) < b) then some (false, ()) else Option.bind (lfp g_ratchet_free_r1 ((b, c, a, 0, ()), (), ())) fun z => Sum.elim (fun x => some (x.fst.fst, ())) (fun _ => some (true, ())) z
def g_ratchet_Turn_r1 : (Int × Int × Unit × Unit × Int × Unit) × (Vector Key 21 × Vector Key 21 × Unit) × Unit → Option (((Int × Int × Unit × Unit × Int × Unit) × (Vector Key 21 × Vector Key 21 × Unit) × Unit) ⊕ ((Unit × Int × Int × Unit) × (Vector Key 21 × Unit) × Unit ⊕ (Int × Unit × Unit × Unit) × (Vector Key 21 × Vector Key 21 × Unit) × Unit))
  | ((a, b, _, _, c, _), (d, e, _), _) => bif decide (c < 21) then bif decide (bw BinOp.and IntKind.u32 (shrI IntKind.u32 a (IntKind.wrap IntKind.u64 (IntKind.wrap IntKind.i64 (20 - c)))) 1 = 1) then bif decide (0 ≤ IntKind.wrap IntKind.i64 (20 - c)) && decide (IntKind.wrap IntKind.i64 (20 - c) < 21) then some (Sum.inl ((a, IntKind.wrap IntKind.i64 (b + 1), (), (), IntKind.wrap IntKind.i64 (c + 1), ()), (Arr.put d (IntKind.wrap IntKind.i64 (20 - c)) (Key.mk b 0), e, ()), ())) else none else bif decide (0 ≤ IntKind.wrap IntKind.i64 (20 - c)) && decide (IntKind.wrap IntKind.i64 (20 - c) < 21) then bif !decide ((N.ahead (Arr.get d (IntKind.wrap IntKind.i64 (20 - c))) 1).snd = 0) then some (Sum.inr (Sum.inl (((), 0, (N.ahead (Arr.get d (IntKind.wrap IntKind.i64 (20 - c))) 1).snd, ()), (Vector.replicate 21 (St.zero St.key), ()), ()))) else bif decide (0 ≤ IntKind.wrap IntKind.i64 (20 - c)) && decide (IntKind.wrap IntKind.i64 (20 - c) < 21) then some (Sum.inl ((a, b, (), (), IntKind.wrap IntKind.i64 (c + 1), ()), (Arr.put d (IntKind.wrap IntKind.i64 (20 - c)) (N.ahead (Arr.get d (IntKind.wrap IntKind.i64 (20 - c))) 1).fst, e, ()), ())) else none else none else some (Sum.inr (Sum.inr ((b, (), (), ()), (d, e, ()), ())))
/-- coterie/ratchet.Turn -/
def g_ratchet_Turn : Vector Key 21 × Int × Int × Unit → Option (Vector Key 21 × Int × Int × Unit)
  | (a, b, c, _) => bif !decide (chk a = 0) then some (Vector.replicate 21 (St.zero St.key), 0, 31, ()) else bif !decide (shrI IntKind.u32 b 21 = 0) then some (Vector.replicate 21 (St.zero St.key), 0, 2, ()) else Option.bind (bif decide (0 ≤ cntTo b 32) && decide (cntTo b 32 ≤ 32) then some (N.free a c (cntTo b 32), ()) else none) fun y => bif !y.fst then some (Vector.replicate 21 (St.zero St.key), 0, 3, ()) else Option.bind (lfp g_ratchet_Turn_r1 ((b, c, (), (), 0, ()), (a, Vector.replicate 21 (St.zero St.key), ()), ())) fun z => Sum.elim (fun x => some (x.snd.fst.fst, x.fst.snd.fst, x.fst.snd.snd.fst, ())) (fun z => some (z.snd.fst.fst, z.fst.fst, 0, ())) z
def g_ref10_Turn_r1 : (Int × Int × Unit × Unit × Int × Unit) × (Vector Key 21 × Vector Key 21 × Unit) × Unit → Option (((Int × Int × Unit × Unit × Int × Unit) × (Vector Key 21 × Vector Key 21 × Unit) × Unit) ⊕ ((Unit × Int × Int × Unit) × (Vector Key 21 × Unit) × Unit ⊕ (Int × Int × Unit × Unit × Unit) × (Vector Key 21 × Vector Key 21 × Unit) × Unit))
  | ((a, b, _, _, c, _), (d, e, _), _) => bif decide (c < 32) then bif inB a c then some (Sum.inr (Sum.inl (((), 0, 2, ()), (Vector.replicate 21 (St.zero St.key), ()), ()))) else some (Sum.inl ((a, b, (), (), IntKind.wrap IntKind.i64 (c + 1), ()), (d, e, ()), ())) else some (Sum.inr (Sum.inr ((a, b, (), (), ()), (d, e, ()), ())))
def g_ref10_Turn_r2 : (Int × Int × Unit × Unit × Int × Int × Unit) × (Vector Key 21 × Vector Key 21 × Unit) × Unit → Option (((Int × Int × Unit × Unit × Int × Int × Unit) × (Vector Key 21 × Vector Key 21 × Unit) × Unit) ⊕ ((Unit × Int × Int × Unit) × (Vector Key 21 × Unit) × Unit ⊕ (Int × Int × Unit × Unit × Unit) × (Vector Key 21 × Vector Key 21 × Unit) × Unit))
  | ((a, b, _, _, c, d, _), (e, f, _), _) => bif decide (d < 21) then bif decide (0 < c) then bif decide (0 ≤ d) && decide (d < 21) then bif decide (b ≤ (Arr.get e d).Base) then bif decide (0 ≤ d) && decide (d < 21) then bif decide ((Arr.get e d).Base < IntKind.wrap IntKind.i64 (b + c)) then some (Sum.inr (Sum.inl (((), 0, 3, ()), (Vector.replicate 21 (St.zero St.key), ()), ()))) else some (Sum.inl ((a, b, (), (), c, IntKind.wrap IntKind.i64 (d + 1), ()), (e, f, ()), ())) else none else some (Sum.inl ((a, b, (), (), c, IntKind.wrap IntKind.i64 (d + 1), ()), (e, f, ()), ())) else none else some (Sum.inr (Sum.inr ((a, b, (), (), ()), (e, f, ()), ()))) else some (Sum.inr (Sum.inr ((a, b, (), (), ()), (e, f, ()), ())))
def g_ref10_Turn_r3 : (Int × Int × Unit × Unit × Int × Unit) × (Vector Key 21 × Vector Key 21 × Unit) × Unit → Option (((Int × Int × Unit × Unit × Int × Unit) × (Vector Key 21 × Vector Key 21 × Unit) × Unit) ⊕ ((Unit × Int × Int × Unit) × (Vector Key 21 × Unit) × Unit ⊕ (Int × Unit × Unit × Unit) × (Vector Key 21 × Vector Key 21 × Unit) × Unit))
  | ((a, b, _, _, c, _), (d, e, _), _) => bif decide (0 ≤ c) then bif inB a c then bif decide (0 ≤ c) && decide (c < 21) then some (Sum.inl ((a, IntKind.wrap IntKind.i64 (b + 1), (), (), IntKind.wrap IntKind.i64 (c - 1), ()), (Arr.put d c (Key.mk b 0), e, ()), ())) else none else bif decide (0 ≤ c) && decide (c < 21) then bif !decide ((N.ahead (Arr.get d c) 1).snd = 0) then some (Sum.inr (Sum.inl (((), 0, 4, ()), (Vector.replicate 21 (St.zero St.key), ()), ()))) else bif decide (0 ≤ c) && decide (c < 21) then some (Sum.inl ((a, b, (), (), IntKind.wrap IntKind.i64 (c - 1), ()), (Arr.put d c (N.ahead (Arr.get d c) 1).fst, e, ()), ())) else none else none else some (Sum.inr (Sum.inr ((b, (), (), ()), (d, e, ()), ())))
/-- coterie/coterieref10.Turn -/
def g_ref10_Turn : Vector Key 21 × Int × Int × Unit → Option (Vector Key 21 × Int × Int × Unit)
  | (a, b, c, _) => bif !decide (chk a = 0) then some (Vector.replicate 21 (St.zero St.key), 0, 31, ()) else Option.bind (lfp g_ref10_Turn_r1 ((b, c, (), (), 21, ()), (a, Vector.replicate 21 (St.zero St.key), ()), ())) fun z => Sum.elim (fun x => some (x.snd.fst.fst, x.fst.snd.fst, x.fst.snd.snd.fst, ())) (fun z => bif decide (0 < cntTo z.fst.fst 21) then bif decide (z.fst.snd.fst < 1) then some (Vector.replicate 21 (St.zero St.key), 0, 3, ()) else bif decide (IntKind.wrap IntKind.i64 (32768 - cntTo z.fst.fst 21) < z.fst.snd.fst) then some (Vector.replicate 21 (St.zero St.key), 0, 3, ()) else Option.bind (lfp g_ref10_Turn_r2 ((z.fst.fst, z.fst.snd.fst, (), (), cntTo z.fst.fst 21, 0, ()), (z.snd.fst.fst, z.snd.fst.snd.fst, ()), ())) fun z => Sum.elim (fun x => some (x.snd.fst.fst, x.fst.snd.fst, x.fst.snd.snd.fst, ())) (fun z => Option.bind (lfp g_ref10_Turn_r3 ((z.fst.fst, z.fst.snd.fst, (), (), 20, ()), (z.snd.fst.fst, z.snd.fst.snd.fst, ()), ())) fun z => Sum.elim (fun x => some (x.snd.fst.fst, x.fst.snd.fst, x.fst.snd.snd.fst, ())) (fun z => some (z.snd.fst.fst, z.fst.fst, 0, ())) z) z else Option.bind (lfp g_ref10_Turn_r2 ((z.fst.fst, z.fst.snd.fst, (), (), cntTo z.fst.fst 21, 0, ()), (z.snd.fst.fst, z.snd.fst.snd.fst, ()), ())) fun z => Sum.elim (fun x => some (x.snd.fst.fst, x.fst.snd.fst, x.fst.snd.snd.fst, ())) (fun z => Option.bind (lfp g_ref10_Turn_r3 ((z.fst.fst, z.fst.snd.fst, (), (), 20, ()), (z.snd.fst.fst, z.snd.fst.snd.fst, ()), ())) fun z => Sum.elim (fun x => some (x.snd.fst.fst, x.fst.snd.fst, x.fst.snd.snd.fst, ())) (fun z => some (z.snd.fst.fst, z.fst.fst, 0, ())) z) z) z
/-- coterie/ratchet.LeafAt -/
def g_ratchet_LeafAt : Entry × Int × Unit → Option (Key × Int × Unit)
  | (a, b, _) => bif decide (a.Base = 0) then some (Key.mk 0 0, 16, ()) else bif decide (a.Base < 0) then some (Key.mk 0 0, 31, ()) else bif decide (32768 ≤ a.Base) then some (Key.mk 0 0, 31, ()) else bif decide (a.Since < 1) then some (Key.mk 0 0, 31, ()) else bif decide (200 < a.Since) then some (Key.mk 0 0, 31, ()) else bif decide (b < a.Since) then some (Key.mk 0 0, 21, ()) else some ((N.ahead (Key.mk a.Base 0) (IntKind.wrap IntKind.i64 (b - a.Since))).fst, (N.ahead (Key.mk a.Base 0) (IntKind.wrap IntKind.i64 (b - a.Since))).snd, ())
end Go.Co.N
end
end

section
namespace Go.Co.N
open Go Go.Co

/-! ### The tree's shape -/
def node (v : Int) : Bool := decide (0 ≤ v) && decide (v < 85)
theorem node_iff {v : Int} : node v = true ↔ 0 ≤ v ∧ v < 85 := by simp [node]
abbrev c_ref01_Node : Con := ⟨[.i], [.bool], fun x => some (node x.1, ())⟩
def child (v i : Int) : Int := if 0 ≤ v ∧ v < 21 ∧ 0 ≤ i ∧ i < 4 then 4 * v + 1 + i else -1
abbrev c_ref01_Child : Con := ⟨[.i, .i], [.i], fun x => some (child x.1 x.2.1, ())⟩
def par (v : Int) : Int := if 1 ≤ v ∧ v < 85 then (v - 1) / 4 else -1
abbrev c_ref01_Parent : Con := ⟨[.i], [.i], fun x => some (par x.1, ())⟩
def leaf (s : Int) : Int := if 0 ≤ s ∧ s < 64 then 21 + s else -1
abbrev c_ref01_Leaf : Con := ⟨[.i], [.i], fun x => some (leaf x.1, ())⟩
abbrev c_shape_Leaf : Con := ⟨[.i], [.i], fun x => some (leaf x.1, ())⟩
def slot (v : Int) : Int := if 21 ≤ v ∧ v < 85 then v - 21 else -1
abbrev c_shape_Slot : Con := ⟨[.i], [.i], fun x => some (slot x.1, ())⟩
def level (v : Int) : Int := if 0 ≤ v ∧ v < 85 then if v < 1 then 0 else if v < 5 then 1 else if v < 21 then 2 else 3 else -1
abbrev c_shape_Level : Con := ⟨[.i], [.i], fun x => some (level x.1, ())⟩
/-- The first node of a level. -/
def firstOf (l : Int) : Int := if l = 0 then 0 else if l = 1 then 1 else if l = 2 then 5 else 21
abbrev c_shape_first : Con := ⟨[.i], [.i], fun x => guardK (decide (0 ≤ (x.1 : Int)) && decide ((x.1 : Int) ≤ 3)) (some (firstOf x.1, ()))⟩
/-- The nodes above a slot's leaf. -/
def pathAt (s : Int) (i : Nat) : Int := if i = 0 then 5 + s / 4 else if i = 1 then 1 + s / 16 else 0
def pathN (s : Int) : Arr 3 Int := Arr.make (pathAt s)
abbrev zero3 : Arr 3 Int := Vector.replicate 3 0
abbrev c_shape_Path : Con := ⟨[.i], [.arr 3 .i, .bool], fun x => some (bif decide (0 ≤ leaf x.1) then pathN x.1 else zero3, decide (0 ≤ leaf x.1), ())⟩
/-- Is w below v, or v itself? -/
def below (v w : Int) : Bool := node v && node w && (decide (v = w) || decide (v = par w) || decide (v = par (par w)) || decide (v = par (par (par w))))
abbrev c_ref01_Below : Con := ⟨[.i, .i], [.bool], fun x => some (below x.1 x.2.1, ())⟩
/-- How many slots are below a node of a level. -/
def widthOf (l : Int) : Int := if l = 0 then 64 else if l = 1 then 16 else if l = 2 then 4 else 1
def spanOf (v : Int) : Int × Int := ((v - firstOf (level v)) * widthOf (level v), widthOf (level v))
abbrev c_shape_span : Con := ⟨[.i], [.i, .i], fun x => guardK (node x.1) (some ((spanOf x.1).1, (spanOf x.1).2, ()))⟩
/-- The word of a set of slots. -/
def word (p : Nat → Bool) : Nat → Nat
  | 0 => 0
  | n + 1 => word p n + (bif p n then 2 ^ n else 0)
def mask (v : Int) : Int := (word (fun s => below v (leaf s)) 64 : Nat)
abbrev c_shape_Mask : Con := ⟨[.i], [.int .u64], fun x => some (mask x.1, ())⟩

/-! ### Rosters -/
abbrev ent (r : Roster) (i : Int) : Entry := Arr.get r i
def goodE (e : Entry) : Bool := decide (0 ≤ e.Who) && decide (e.Who < 256) && decide (1 ≤ e.Base) && decide (e.Base < 32768) && decide (1 ≤ e.Since) && decide (e.Since ≤ 200)
theorem goodE_iff {e : Entry} : goodE e = true ↔ 0 ≤ e.Who ∧ e.Who < 256 ∧ 1 ≤ e.Base ∧ e.Base < 32768 ∧ 1 ≤ e.Since ∧ e.Since ≤ 200 := by
  simp [goodE, and_assoc]
abbrev c_roster_right : Con := ⟨[.st .entry], [.bool], fun x => some (goodE x.1, ())⟩
abbrev c_ref09_Right : Con := ⟨[.st .entry], [.bool], fun x => some (goodE x.1, ())⟩
abbrev zeroE : Entry := ⟨0, 0, 0⟩
def entOk (r : Roster) (i : Nat) : Bool := decide (ent r i = zeroE) || (goodE (ent r i) && allN i fun k => decide ((ent r k).Base = 0) || (!decide ((ent r k).Who = (ent r i).Who) && !decide ((ent r k).Base = (ent r i).Base)))
def goodRoster (r : Roster) : Bool := allN 64 (entOk r)
def chkR (r : Roster) : Int := bif goodRoster r then 0 else 31
abbrev c_roster_Check : Con := ⟨[.arr 64 (.st .entry)], [.i], fun x => some (chkR x.1, ())⟩
abbrev c_ref09_Check : Con := ⟨[.arr 64 (.st .entry)], [.i], fun x => some (chkR x.1, ())⟩
def isOn (r : Roster) (s : Nat) : Bool := !decide ((ent r s).Base = 0)
def taken (r : Roster) : Int := (word (isOn r) 64 : Nat)
abbrev c_roster_Taken : Con := ⟨[.arr 64 (.st .entry)], [.int .u64], fun x => some (taken x.1, ())⟩
def findR (r : Roster) (who : Int) : Int := match fstN 64 (fun s => isOn r s && decide ((ent r s).Who = who)) 0 with | some s => (s : Int) | none => -1
abbrev c_roster_Find : Con := ⟨[.arr 64 (.st .entry), .i], [.i], fun x => some (findR x.1 x.2.1, ())⟩
abbrev c_ref09_Find : Con := ⟨[.arr 64 (.st .entry), .i], [.i], fun x => some (findR x.1 x.2.1, ())⟩

/-! ### Trees -/
def goodTree (t : Tree) : Bool := decide (0 ≤ t.Epoch) && decide (t.Epoch ≤ 200) && decide (22 ≤ t.Fresh) && decide (t.Fresh ≤ 32768) && goodKeys t.Keys && goodRoster t.Roster &&
  allN 21 (fun v => decide (bas t.Keys v < t.Fresh) && decide (stp t.Keys v ≤ t.Epoch)) &&
  allN 64 (fun s => decide ((ent t.Roster s).Base < t.Fresh) && decide ((ent t.Roster s).Since ≤ t.Epoch) && allN 21 fun v => !decide (bas t.Keys v = (ent t.Roster s).Base))
theorem goodTree_iff {t : Tree} : goodTree t = true ↔ 0 ≤ t.Epoch ∧ t.Epoch ≤ 200 ∧ 22 ≤ t.Fresh ∧ t.Fresh ≤ 32768 ∧ goodKeys t.Keys = true ∧ goodRoster t.Roster = true ∧
    (∀ v : Nat, v < 21 → bas t.Keys v < t.Fresh ∧ stp t.Keys v ≤ t.Epoch) ∧ (∀ s : Nat, s < 64 → (ent t.Roster s).Base < t.Fresh ∧ (ent t.Roster s).Since ≤ t.Epoch ∧ ∀ v : Nat, v < 21 → bas t.Keys v ≠ (ent t.Roster s).Base) := by
  unfold goodTree
  simp [allN_iff, and_assoc]
def chkT (t : Tree) : Int := bif goodTree t then 0 else 31
abbrev c_keytree_Check : Con := ⟨[.st .tree], [.i], fun x => some (chkT x.1, ())⟩
abbrev c_ref11_Check : Con := ⟨[.st .tree], [.i], fun x => some (chkT x.1, ())⟩
def startT : Tree := ⟨0, 22, Arr.make fun v => ⟨v + 1, 0⟩, Vector.replicate 64 St.entry.zero⟩
abbrev c_keytree_Start : Con := ⟨[], [.st .tree], fun _ => some (startT, ())⟩
abbrev c_ref11_Start : Con := ⟨[], [.st .tree], fun _ => some (startT, ())⟩
/-- A node's key, of a right tree. -/
def ofT (t : Tree) (v : Int) : Key × Int := bif node v then bif decide (v < 21) then (Arr.get t.Keys v, 0) else leafAt (ent t.Roster (v - 21)) t.Epoch else (⟨0, 0⟩, 2)
/-- The keys above a slot. -/
def pathK (t : Tree) (s : Int) : Path := Arr.make fun i => Arr.get t.Keys (pathAt s i)
def belowR (r : Roster) (v : Int) : Bool := anyN 64 fun s => isOn r s && below v (leaf s)
def held (t : Tree) (v : Int) : Bool := goodTree t && belowR t.Roster v
abbrev zeroM : Member := St.zero .member
def standAt (t : Tree) (who s : Int) : Member := ⟨who, s, t.Epoch, (leafAt (ent t.Roster s) t.Epoch).1, pathK t s, true, false, 0⟩
def stand (t : Tree) (who : Int) : Member × Int := bif goodTree t then bif decide (0 ≤ findR t.Roster who) then (standAt t who (findR t.Roster who), 0) else (zeroM, 16) else (zeroM, 31)
def cardOf (m : Member) : Card := ⟨m.Who, m.Slot, m.Epoch, m.Leaf⟩
def card (t : Tree) (who : Int) : Card × Int := (cardOf (stand t who).1, (stand t who).2)
/-! ### The laws of chapter 11 -/
end Go.Co.N
end

section
set_option maxRecDepth 100000
noncomputable section
namespace Go.Co.N
open Go Go.Co
/-- coterie/coterieref01.Node -/
def g_ref01_Node : Int × Unit → Option (Bool × Unit)
  | (a, _) => bif decide (0 ≤ a) then some (decide (a < 85), ()) else some (false, ())
/-- coterie/coterieref01.Child -/
def g_ref01_Child : Int × Int × Unit → Option (Int × Unit)
  | (a, b, _) => bif decide (a < 0) then some (-1, ()) else bif decide (21 ≤ a) then some (-1, ()) else bif decide (b < 0) then some (-1, ()) else bif decide (4 ≤ b) then some (-1, ()) else some (IntKind.wrap IntKind.i64 (IntKind.wrap IntKind.i64 (IntKind.wrap IntKind.i64 (4 * a) + 1) + b), ())
def g_ref01_Parent_r2 : (Int × Int × Int × Unit) × Unit × Unit → Option (((Int × Int × Int × Unit) × Unit × Unit) ⊕ ((Int × Unit) × Unit × Unit ⊕ (Int × Int × Unit) × Unit × Unit))
  | ((a, b, c, _), _, _) => bif decide (c < 4) then bif decide (child b c = a) then some (Sum.inr (Sum.inl ((b, ()), (), ()))) else some (Sum.inl ((a, b, IntKind.wrap IntKind.i64 (c + 1), ()), (), ())) else some (Sum.inr (Sum.inr ((a, b, ()), (), ())))
def g_ref01_Parent_r1 : (Int × Int × Unit) × Unit × Unit → Option (((Int × Int × Unit) × Unit × Unit) ⊕ ((Int × Unit) × Unit × Unit ⊕ Unit × Unit × Unit))
  | ((a, b, _), _, _) => bif decide (b < 21) then Option.bind (lfp g_ref01_Parent_r2 ((a, b, 0, ()), (), ())) fun z => Sum.elim (fun x => some (Sum.inr (Sum.inl ((x.fst.fst, ()), (), ())))) (fun z => some (Sum.inl ((z.fst.fst, IntKind.wrap IntKind.i64 (z.fst.snd.fst + 1), ()), (), ()))) z else some (Sum.inr (Sum.inr ((), (), ())))
/-- coterie/coterieref01.Parent -/
def g_ref01_Parent : Int × Unit → Option (Int × Unit)
  | (a, _) => bif decide (a < 1) then some (-1, ()) else bif decide (85 ≤ a) then some (-1, ()) else Option.bind (lfp g_ref01_Parent_r1 ((a, 0, ()), (), ())) fun z => Sum.elim (fun x => some (x.fst.fst, ())) (fun _ => some (-1, ())) z
/-- coterie/coterieref01.Leaf -/
def g_ref01_Leaf : Int × Unit → Option (Int × Unit)
  | (a, _) => bif decide (a < 0) then some (-1, ()) else bif decide (64 ≤ a) then some (-1, ()) else some (IntKind.wrap IntKind.i64 (21 + a), ())
def g_ref01_Below_r1 : (Int × Int × Unit) × Unit × Unit → Option (((Int × Int × Unit) × Unit × Unit) ⊕ ((Int × Int × Unit) × Unit × Unit))
  | ((a, b, _), _, _) => bif decide (a < b) then some (Sum.inl ((a, par b, ()), (), ())) else some (Sum.inr ((a, b, ()), (), ()))
/-- coterie/coterieref01.Below -/
def g_ref01_Below : Int × Int × Unit → Option (Bool × Unit)
  | (a, b, _) => bif !node a then some (false, ()) else bif !node b then some (false, ()) else Option.bind (lfp g_ref01_Below_r1 ((a, b, ()), (), ())) fun z => some (decide (z.fst.snd.fst = z.fst.fst), ())
/-- coterie/shape.Leaf -/
def g_shape_Leaf : Int × Unit → Option (Int × Unit)
  | (a, _) => bif decide (a < 0) then some (-1, ()) else bif decide (64 ≤ a) then some (-1, ()) else some (IntKind.wrap IntKind.i64 (21 + a), ())
/-- coterie/shape.Slot -/
def g_shape_Slot : Int × Unit → Option (Int × Unit)
  | (a, _) => bif decide (a < 21) then some (-1, ()) else bif decide (85 ≤ a) then some (-1, ()) else some (IntKind.wrap IntKind.i64 (a - 21), ())
/-- coterie/shape.first -/
def g_shape_first : Int × Unit → Option (Int × Unit)
  | (a, _) => bif decide (0 ≤ IntKind.wrap IntKind.i64 (2 * a)) then some (IntKind.wrap IntKind.i64 (Int.tdiv (IntKind.wrap IntKind.i64 (shlI IntKind.i64 1 (IntKind.wrap IntKind.i64 (2 * a)) - 1)) 3), ()) else none
def g_shape_Level_r1 : (Int × Int × Unit) × Unit × Unit → Option (((Int × Int × Unit) × Unit × Unit) ⊕ ((Int × Unit) × Unit × Unit))
  | ((a, b, _), _, _) => Option.bind (bif decide (0 ≤ b) && decide (b ≤ 3) then some (firstOf b, ()) else none) fun y => bif decide (y.fst ≤ a) then some (Sum.inr ((b, ()), (), ())) else some (Sum.inl ((a, IntKind.wrap IntKind.i64 (b - 1), ()), (), ()))
/-- coterie/shape.Level -/
def g_shape_Level : Int × Unit → Option (Int × Unit)
  | (a, _) => bif decide (a < 0) then some (-1, ()) else bif decide (85 ≤ a) then some (-1, ()) else Option.bind (lfp g_shape_Level_r1 ((a, 3, ()), (), ())) fun z => some (z.fst.fst, ())
/-- coterie/shape.span -/
def g_shape_span : Int × Unit → Option (Int × Int × Unit)
  | (a, _) => Option.bind (bif decide (0 ≤ level a) && decide (level a ≤ 3) then some (firstOf (level a), ()) else none) fun y => bif decide (0 ≤ IntKind.wrap IntKind.i64 (2 * IntKind.wrap IntKind.i64 (3 - level a))) then bif decide (0 ≤ IntKind.wrap IntKind.i64 (2 * IntKind.wrap IntKind.i64 (3 - level a))) then some (shlI IntKind.i64 (IntKind.wrap IntKind.i64 (a - y.fst)) (IntKind.wrap IntKind.i64 (2 * IntKind.wrap IntKind.i64 (3 - level a))), shlI IntKind.i64 1 (IntKind.wrap IntKind.i64 (2 * IntKind.wrap IntKind.i64 (3 - level a))), ()) else none else none
/-- coterie/shape.Mask -/
def g_shape_Mask : Int × Unit → Option (Int × Unit)
  | (a, _) => bif decide (level a < 0) then some (0, ()) else Option.bind (bif node a then some ((spanOf a).fst, (spanOf a).snd, ()) else none) fun y => some (shlI IntKind.u64 (shrI IntKind.u64 18446744073709551615 (IntKind.wrap IntKind.u64 (64 - IntKind.wrap IntKind.u64 y.snd.fst))) (IntKind.wrap IntKind.u64 y.fst), ())
def g_shape_Path_r1 : (Int × Unit × Unit × Int × Unit) × (Vector Int 3 × Vector Int 3 × Unit) × Unit → Option (((Int × Unit × Unit × Int × Unit) × (Vector Int 3 × Vector Int 3 × Unit) × Unit) ⊕ ((Unit × Unit × Unit) × (Vector Int 3 × Vector Int 3 × Unit) × Unit))
  | ((a, _, _, b, _), (c, d, _), _) => bif decide (b < 3) then Option.bind (bif decide (0 ≤ IntKind.wrap IntKind.i64 (3 - IntKind.wrap IntKind.i64 (b + 1))) && decide (IntKind.wrap IntKind.i64 (3 - IntKind.wrap IntKind.i64 (b + 1)) ≤ 3) then some (firstOf (IntKind.wrap IntKind.i64 (3 - IntKind.wrap IntKind.i64 (b + 1))), ()) else none) fun y => bif decide (0 ≤ IntKind.wrap IntKind.i64 (2 * IntKind.wrap IntKind.i64 (b + 1))) then bif decide (0 ≤ b) && decide (b < 3) then some (Sum.inl ((a, (), (), IntKind.wrap IntKind.i64 (b + 1), ()), (c, Arr.put d b (IntKind.wrap IntKind.i64 (y.fst + shrI IntKind.i64 a (IntKind.wrap IntKind.i64 (2 * IntKind.wrap IntKind.i64 (b + 1))))), ()), ())) else none else none else some (Sum.inr (((), (), ()), (c, d, ()), ()))
/-- coterie/shape.Path -/
def g_shape_Path : Int × Unit → Option (Vector Int 3 × Bool × Unit)
  | (a, _) => bif decide (leaf a < 0) then some (Vector.replicate 3 0, false, ()) else Option.bind (lfp g_shape_Path_r1 ((a, (), (), 0, ()), (Vector.replicate 3 0, Vector.replicate 3 0, ()), ())) fun z => some (z.snd.fst.snd.fst, true, ())
/-- coterie/roster.right -/
def g_roster_right : Entry × Unit → Option (Bool × Unit)
  | (a, _) => bif decide (0 ≤ a.Who) then bif decide (a.Who < 256) then bif decide (0 < a.Base) then bif decide (a.Base < 32768) then bif decide (0 < a.Since) then some (decide (a.Since ≤ 200), ()) else some (false, ()) else some (false, ()) else some (false, ()) else some (false, ()) else some (false, ())
def g_roster_Check_r1 : (Unit × Unit × Vector Entry 64 × Int × Unit) × Unit × List (Int × Int) × List (Int × Int) × Unit → Option (((Unit × Unit × Vector Entry 64 × Int × Unit) × Unit × List (Int × Int) × List (Int × Int) × Unit) ⊕ ((Int × Unit) × Unit × Unit ⊕ Unit × Unit × Unit))
  | ((_, _, a, b, _), _, c, d, _) => bif decide (b < 64) then bif decide (0 ≤ b) && decide (b < 64) then bif decide (Arr.get a b = Entry.mk 0 0 0) then some (Sum.inl (((), (), a, IntKind.wrap IntKind.i64 (b + 1), ()), (), c, d, ())) else bif !goodE (Arr.get a b) then some (Sum.inr (Sum.inl ((31, ()), (), ()))) else bif decide (1 < Option.getD (mget (mput c (Arr.get a b).Who (IntKind.wrap IntKind.i64 (Option.getD (mget c (Arr.get a b).Who) 0 + 1))) (Arr.get a b).Who) 0) then some (Sum.inr (Sum.inl ((31, ()), (), ()))) else bif decide (1 < Option.getD (mget (mput d (Arr.get a b).Base (IntKind.wrap IntKind.i64 (Option.getD (mget d (Arr.get a b).Base) 0 + 1))) (Arr.get a b).Base) 0) then some (Sum.inr (Sum.inl ((31, ()), (), ()))) else some (Sum.inl (((), (), a, IntKind.wrap IntKind.i64 (b + 1), ()), (), mput c (Arr.get a b).Who (IntKind.wrap IntKind.i64 (Option.getD (mget c (Arr.get a b).Who) 0 + 1)), mput d (Arr.get a b).Base (IntKind.wrap IntKind.i64 (Option.getD (mget d (Arr.get a b).Base) 0 + 1)), ())) else none else some (Sum.inr (Sum.inr ((), (), ())))
/-- coterie/roster.Check -/
def g_roster_Check : Vector Entry 64 × Unit → Option (Int × Unit)
  | (a, _) => Option.bind (lfp g_roster_Check_r1 (((), (), a, 0, ()), (), [], [], ())) fun z => Sum.elim (fun x => some (x.fst.fst, ())) (fun _ => some (0, ())) z
def g_roster_Taken_r1 : (Int × Vector Entry 64 × Int × Unit) × Unit × Unit → Option (((Int × Vector Entry 64 × Int × Unit) × Unit × Unit) ⊕ ((Int × Unit) × Unit × Unit))
  | ((a, b, c, _), _, _) => bif decide (c < 64) then bif decide (0 ≤ c) && decide (c < 64) then bif !decide ((Arr.get b c).Base = 0) then some (Sum.inl ((bw BinOp.or IntKind.u64 a (shlI IntKind.u64 1 (IntKind.wrap IntKind.u64 c)), b, IntKind.wrap IntKind.i64 (c + 1), ()), (), ())) else some (Sum.inl ((a, b, IntKind.wrap IntKind.i64 (c + 1), ()), (), ())) else none else some (Sum.inr ((a, ()), (), ()))
/-- coterie/roster.Taken -/
def g_roster_Taken : Vector Entry 64 × Unit → Option (Int × Unit)
  | (a, _) => Option.bind (lfp g_roster_Taken_r1 ((0, a, 0, ()), (), ())) fun z => some (z.fst.fst, ())
def g_roster_Find_r1 : (Unit × Unit × Int × Int × Unit) × (Vector Entry 64 × Int × Unit) × Unit → Option (((Unit × Unit × Int × Int × Unit) × (Vector Entry 64 × Int × Unit) × Unit) ⊕ ((Int × Unit) × (Vector Entry 64 × Int × Unit) × Unit ⊕ Unit × (Vector Entry 64 × Int × Unit) × Unit))
  | ((_, _, a, b, _), (c, d, _), _) => bif decide (b < a) then bif decide (0 ≤ b) && decide (b < 64) then bif !decide ((Arr.get c b).Base = 0) then bif decide ((Arr.get c b).Who = d) then some (Sum.inr (Sum.inl ((b, ()), (c, d, ()), ()))) else some (Sum.inl (((), (), a, IntKind.wrap IntKind.i64 (b + 1), ()), (c, d, ()), ())) else some (Sum.inl (((), (), a, IntKind.wrap IntKind.i64 (b + 1), ()), (c, d, ()), ())) else none else some (Sum.inr (Sum.inr ((), (c, d, ()), ())))
/-- coterie/roster.Find -/
def g_roster_Find : Vector Entry 64 × Int × Unit → Option (Int × Unit)
  | (a, b, _) => Option.bind (lfp g_roster_Find_r1 (((), (), 64, 0, ()), (a, b, ()), ())) fun z => Sum.elim (fun x => some (x.fst.fst, ())) (fun _ => some (-1, ())) z
/-- coterie/coterieref09.Right -/
def g_ref09_Right : Entry × Unit → Option (Bool × Unit)
  | (a, _) => bif decide (0 ≤ a.Who) then bif decide (a.Who < 256) then bif decide (1 ≤ a.Base) then bif decide (a.Base < 32768) then bif decide (1 ≤ a.Since) then some (decide (a.Since ≤ 200), ()) else some (false, ()) else some (false, ()) else some (false, ()) else some (false, ()) else some (false, ())
def g_ref09_Check_r2 : (Unit × Int × Int × Unit) × (Vector Entry 64 × Unit) × Unit → Option (((Unit × Int × Int × Unit) × (Vector Entry 64 × Unit) × Unit) ⊕ ((Int × Unit) × Unit × Unit ⊕ (Unit × Int × Unit) × (Vector Entry 64 × Unit) × Unit))
  | ((_, a, b, _), (c, _), _) => bif decide (b < a) then bif decide (0 ≤ b) && decide (b < 64) then bif !decide ((Arr.get c b).Base = 0) then bif decide (0 ≤ b) && decide (b < 64) then bif decide (0 ≤ a) && decide (a < 64) then bif decide ((Arr.get c b).Who = (Arr.get c a).Who) then some (Sum.inr (Sum.inl ((31, ()), (), ()))) else bif decide (0 ≤ b) && decide (b < 64) then bif decide (0 ≤ a) && decide (a < 64) then bif decide ((Arr.get c b).Base = (Arr.get c a).Base) then some (Sum.inr (Sum.inl ((31, ()), (), ()))) else some (Sum.inl (((), a, IntKind.wrap IntKind.i64 (b + 1), ()), (c, ()), ())) else none else none else none else none else some (Sum.inl (((), a, IntKind.wrap IntKind.i64 (b + 1), ()), (c, ()), ())) else none else some (Sum.inr (Sum.inr (((), a, ()), (c, ()), ())))
def g_ref09_Check_r1 : (Unit × Int × Unit) × (Vector Entry 64 × Unit) × Unit → Option (((Unit × Int × Unit) × (Vector Entry 64 × Unit) × Unit) ⊕ ((Int × Unit) × Unit × Unit ⊕ Unit × Unit × Unit))
  | ((_, a, _), (b, _), _) => bif decide (a < 64) then bif decide (0 ≤ a) && decide (a < 64) then bif decide (Arr.get b a = Entry.mk 0 0 0) then some (Sum.inl (((), IntKind.wrap IntKind.i64 (a + 1), ()), (b, ()), ())) else bif decide (0 ≤ a) && decide (a < 64) then bif !goodE (Arr.get b a) then some (Sum.inr (Sum.inl ((31, ()), (), ()))) else Option.bind (lfp g_ref09_Check_r2 (((), a, 0, ()), (b, ()), ())) fun z => Sum.elim (fun x => some (Sum.inr (Sum.inl ((x.fst.fst, ()), (), ())))) (fun z => some (Sum.inl (((), IntKind.wrap IntKind.i64 (z.fst.snd.fst + 1), ()), (z.snd.fst.fst, ()), ()))) z else none else none else some (Sum.inr (Sum.inr ((), (), ())))
/-- coterie/coterieref09.Check -/
def g_ref09_Check : Vector Entry 64 × Unit → Option (Int × Unit)
  | (a, _) => Option.bind (lfp g_ref09_Check_r1 (((), 0, ()), (a, ()), ())) fun z => Sum.elim (fun x => some (x.fst.fst, ())) (fun _ => some (0, ())) z
def g_ref09_Find_r1 : (Int × Unit × Int × Unit) × (Vector Entry 64 × Unit) × Unit → Option (((Int × Unit × Int × Unit) × (Vector Entry 64 × Unit) × Unit) ⊕ ((Int × Unit) × Unit × Unit ⊕ Unit × Unit × Unit))
  | ((a, _, b, _), (c, _), _) => bif decide (b < 64) then bif decide (0 ≤ b) && decide (b < 64) then bif !decide ((Arr.get c b).Base = 0) then bif decide (0 ≤ b) && decide (b < 64) then bif decide ((Arr.get c b).Who = a) then some (Sum.inr (Sum.inl ((b, ()), (), ()))) else some (Sum.inl ((a, (), IntKind.wrap IntKind.i64 (b + 1), ()), (c, ()), ())) else none else some (Sum.inl ((a, (), IntKind.wrap IntKind.i64 (b + 1), ()), (c, ()), ())) else none else some (Sum.inr (Sum.inr ((), (), ())))
/-- coterie/coterieref09.Find -/
def g_ref09_Find : Vector Entry 64 × Int × Unit → Option (Int × Unit)
  | (a, b, _) => Option.bind (lfp g_ref09_Find_r1 ((b, (), 0, ()), (a, ()), ())) fun z => Sum.elim (fun x => some (x.fst.fst, ())) (fun _ => some (-1, ())) z
def g_keytree_Start_r1 : (Unit × Unit × Int × Unit) × (Tree × Tree × Unit) × Unit → Option (((Unit × Unit × Int × Unit) × (Tree × Tree × Unit) × Unit) ⊕ ((Unit × Unit × Unit) × (Tree × Tree × Unit) × Unit))
  | ((_, _, a, _), (b, c, _), _) => bif decide (a < 21) then bif decide (0 ≤ a) && decide (a < 21) then some (Sum.inl (((), (), IntKind.wrap IntKind.i64 (a + 1), ()), (b, Tree.mk c.Epoch c.Fresh (Arr.put c.Keys a (Key.mk (IntKind.wrap IntKind.i64 (a + 1)) (Arr.get c.Keys a).Step)) c.Roster, ()), ())) else none else some (Sum.inr (((), (), ()), (b, c, ()), ()))
/-- coterie/keytree.Start -/
def g_keytree_Start : Unit → Option (Tree × Unit)
  | _ => Option.bind (lfp g_keytree_Start_r1 (((), (), 0, ()), (St.zero St.tree, Tree.mk 0 22 (Vector.replicate 21 (St.zero St.key)) (Vector.replicate 64 (St.zero St.entry)), ()), ())) fun z => some (z.snd.fst.snd.fst, ())
def g_keytree_Check_r1 : (Unit × Unit × Vector Key 21 × Int × Unit) × (Tree × Unit) × List (Int × Int) × Unit → Option (((Unit × Unit × Vector Key 21 × Int × Unit) × (Tree × Unit) × List (Int × Int) × Unit) ⊕ ((Int × Unit) × Unit × Unit ⊕ (Unit × Unit × Unit) × (Tree × Unit) × List (Int × Int) × Unit))
  | ((_, _, a, b, _), (c, _), d, _) => bif decide (b < 21) then bif decide (0 ≤ b) && decide (b < 21) then bif decide (c.Fresh ≤ (Arr.get a b).Base) then some (Sum.inr (Sum.inl ((31, ()), (), ()))) else bif decide (c.Epoch < (Arr.get a b).Step) then some (Sum.inr (Sum.inl ((31, ()), (), ()))) else some (Sum.inl (((), (), a, IntKind.wrap IntKind.i64 (b + 1), ()), (c, ()), mput d (Arr.get a b).Base (IntKind.wrap IntKind.i64 (Option.getD (mget d (Arr.get a b).Base) 0 + 1)), ())) else none else some (Sum.inr (Sum.inr (((), (), ()), (c, ()), d, ())))
def g_keytree_Check_r2 : (Unit × Unit × Vector Entry 64 × Int × Unit) × (Tree × Unit) × List (Int × Int) × Unit → Option (((Unit × Unit × Vector Entry 64 × Int × Unit) × (Tree × Unit) × List (Int × Int) × Unit) ⊕ ((Int × Unit) × Unit × Unit ⊕ Unit × Unit × Unit))
  | ((_, _, a, b, _), (c, _), d, _) => bif decide (b < 64) then bif decide (0 ≤ b) && decide (b < 64) then bif decide (0 < Option.getD (mget d (Arr.get a b).Base) 0) then some (Sum.inr (Sum.inl ((31, ()), (), ()))) else bif decide (c.Fresh ≤ (Arr.get a b).Base) then some (Sum.inr (Sum.inl ((31, ()), (), ()))) else bif decide (c.Epoch < (Arr.get a b).Since) then some (Sum.inr (Sum.inl ((31, ()), (), ()))) else some (Sum.inl (((), (), a, IntKind.wrap IntKind.i64 (b + 1), ()), (c, ()), d, ())) else none else some (Sum.inr (Sum.inr ((), (), ())))
/-- coterie/keytree.Check -/
def g_keytree_Check : Tree × Unit → Option (Int × Unit)
  | (a, _) => bif decide (a.Epoch < 0) then some (31, ()) else bif decide (200 < a.Epoch) then some (31, ()) else bif decide (a.Fresh ≤ 21) then some (31, ()) else bif decide (32768 < a.Fresh) then some (31, ()) else bif !decide (chk a.Keys = 0) then some (31, ()) else bif !decide (chkR a.Roster = 0) then some (31, ()) else Option.bind (lfp g_keytree_Check_r1 (((), (), a.Keys, 0, ()), (a, ()), [], ())) fun z => Sum.elim (fun x => some (x.fst.fst, ())) (fun z => Option.bind (lfp g_keytree_Check_r2 (((), (), z.snd.fst.fst.Roster, 0, ()), (z.snd.fst.fst, ()), z.snd.snd.fst, ())) fun z => Sum.elim (fun x => some (x.fst.fst, ())) (fun _ => some (0, ())) z) z
def g_ref11_Start_r1 : (Unit × Unit × Int × Unit) × (Tree × Tree × Unit) × Unit → Option (((Unit × Unit × Int × Unit) × (Tree × Tree × Unit) × Unit) ⊕ ((Unit × Unit × Unit) × (Tree × Tree × Unit) × Unit))
  | ((_, _, a, _), (b, c, _), _) => bif decide (a < 21) then bif decide (0 ≤ a) && decide (a < 21) then some (Sum.inl (((), (), IntKind.wrap IntKind.i64 (a + 1), ()), (b, Tree.mk c.Epoch c.Fresh (Arr.put c.Keys a (Key.mk (IntKind.wrap IntKind.i64 (a + 1)) 0)) c.Roster, ()), ())) else none else some (Sum.inr (((), (), ()), (b, c, ()), ()))
/-- coterie/coterieref11.Start -/
def g_ref11_Start : Unit → Option (Tree × Unit)
  | _ => Option.bind (lfp g_ref11_Start_r1 (((), (), 0, ()), (St.zero St.tree, Tree.mk 0 22 (Vector.replicate 21 (St.zero St.key)) (Vector.replicate 64 (St.zero St.entry)), ()), ())) fun z => some (z.snd.fst.snd.fst, ())
def g_ref11_Check_r1 : (Unit × Int × Unit) × (Tree × Unit) × Unit → Option (((Unit × Int × Unit) × (Tree × Unit) × Unit) ⊕ ((Int × Unit) × Unit × Unit ⊕ (Unit × Unit) × (Tree × Unit) × Unit))
  | ((_, a, _), (b, _), _) => bif decide (a < 21) then bif decide (0 ≤ a) && decide (a < 21) then bif decide (b.Fresh ≤ (Arr.get b.Keys a).Base) then some (Sum.inr (Sum.inl ((31, ()), (), ()))) else bif decide (0 ≤ a) && decide (a < 21) then bif decide (b.Epoch < (Arr.get b.Keys a).Step) then some (Sum.inr (Sum.inl ((31, ()), (), ()))) else some (Sum.inl (((), IntKind.wrap IntKind.i64 (a + 1), ()), (b, ()), ())) else none else none else some (Sum.inr (Sum.inr (((), ()), (b, ()), ())))
def g_ref11_Check_r3 : (Unit × Int × Int × Unit) × (Tree × Unit) × Unit → Option (((Unit × Int × Int × Unit) × (Tree × Unit) × Unit) ⊕ ((Int × Unit) × Unit × Unit ⊕ (Unit × Int × Unit) × (Tree × Unit) × Unit))
  | ((_, a, b, _), (c, _), _) => bif decide (b < 21) then bif decide (0 ≤ b) && decide (b < 21) then bif decide (0 ≤ a) && decide (a < 64) then bif decide ((Arr.get c.Keys b).Base = (Arr.get c.Roster a).Base) then some (Sum.inr (Sum.inl ((31, ()), (), ()))) else some (Sum.inl (((), a, IntKind.wrap IntKind.i64 (b + 1), ()), (c, ()), ())) else none else none else some (Sum.inr (Sum.inr (((), a, ()), (c, ()), ())))
def g_ref11_Check_r2 : (Unit × Int × Unit) × (Tree × Unit) × Unit → Option (((Unit × Int × Unit) × (Tree × Unit) × Unit) ⊕ ((Int × Unit) × Unit × Unit ⊕ Unit × Unit × Unit))
  | ((_, a, _), (b, _), _) => bif decide (a < 64) then bif decide (0 ≤ a) && decide (a < 64) then bif decide (b.Fresh ≤ (Arr.get b.Roster a).Base) then some (Sum.inr (Sum.inl ((31, ()), (), ()))) else bif decide (0 ≤ a) && decide (a < 64) then bif decide (b.Epoch < (Arr.get b.Roster a).Since) then some (Sum.inr (Sum.inl ((31, ()), (), ()))) else Option.bind (lfp g_ref11_Check_r3 (((), a, 0, ()), (b, ()), ())) fun z => Sum.elim (fun x => some (Sum.inr (Sum.inl ((x.fst.fst, ()), (), ())))) (fun z => some (Sum.inl (((), IntKind.wrap IntKind.i64 (z.fst.snd.fst + 1), ()), (z.snd.fst.fst, ()), ()))) z else none else none else some (Sum.inr (Sum.inr ((), (), ())))
/-- coterie/coterieref11.Check -/
def g_ref11_Check : Tree × Unit → Option (Int × Unit)
  | (a, _) => bif decide (a.Epoch < 0) then some (31, ()) else bif decide (200 < a.Epoch) then some (31, ()) else bif decide (a.Fresh < 22) then some (31, ()) else bif decide (32768 < a.Fresh) then some (31, ()) else bif !decide (chk a.Keys = 0) then some (31, ()) else bif !decide (chkR a.Roster = 0) then some (31, ()) else Option.bind (lfp g_ref11_Check_r1 (((), 0, ()), (a, ()), ())) fun z => Sum.elim (fun x => some (x.fst.fst, ())) (fun z => Option.bind (lfp g_ref11_Check_r2 (((), 0, ()), (z.snd.fst.fst, ()), ())) fun z => Sum.elim (fun x => some (x.fst.fst, ())) (fun _ => some (0, ())) z) z
end Go.Co.N
end
end

section
namespace Go.Co.N
open Go Go.Co

/-! ### Sets of slots -/
def bitI (s : Int) (i : Nat) : Bool := decide (s / 2 ^ i % 2 = 1)
abbrev c_ref08_Places : Con := ⟨[.int .u64], [.arr 64 .bool], fun x => some ((Arr.make (bitI x.1) : Arr 64 Bool), ())⟩
abbrev c_ref08_Word : Con := ⟨[.arr 64 .bool], [.int .u64], fun x => some (((word (fun i => Arr.get (x.1 : Arr 64 Bool) (i : Int)) 64 : Nat) : Int), ())⟩
def listW (s : Int) : List Int := ((List.range 64).filter (bitI s)).map fun (i : Nat) => (i : Int)
abbrev c_ref08_List : Con := ⟨[.int .u64], [.list .i], fun x => some (listW x.1, ())⟩
def cntW (s : Int) : Int := ((List.range 64).filter (bitI s)).length
abbrev c_ref08_Count : Con := ⟨[.int .u64], [.i], fun x => some (cntW x.1, ())⟩
abbrev c_ref09_Taken : Con := ⟨[.arr 64 (.st .entry)], [.int .u64], fun x => some (taken x.1, ())⟩

/-! ### Who may move -/
def personA (r : Roster) (seen : Arr 256 Bool) (w : Int) (leaves : Bool) : Int :=
  bif decide (0 ≤ w) && decide (w < 256) then
    bif Arr.get seen w then 15 else bif leaves then (bif decide (0 ≤ findR r w) then 0 else 16) else (bif decide (0 ≤ findR r w) then 17 else 0)
  else 14
abbrev c_ref09_person : Con := ⟨[.arr 64 (.st .entry), .arr 256 .bool, .i, .bool], [.i], fun x => some (personA x.1 x.2.1 x.2.2.1 x.2.2.2.1, ())⟩
def personE (r : Roster) (seen : List Int) (leaves : Bool) (w : Int) : Int :=
  bif decide (0 ≤ w) && decide (w < 256) then
    bif decide (w ∈ seen) then 15 else bif leaves then (bif decide (0 ≤ findR r w) then 0 else 16) else (bif decide (0 ≤ findR r w) then 17 else 0)
  else 14
/-- The first error of a list, behind those that stand earlier. -/
def askL (r : Roster) (leaves : Bool) : List Int → List Int → Int
  | [], _ => 0
  | w :: ws, seen => bif decide (personE r seen leaves w = 0) then askL r leaves ws (w :: seen) else personE r seen leaves w
def fits (r : Roster) (b : Batch) : Int :=
  bif goodRoster r then
    bif decide (askL r true b.Leaves [] = 0) then
      bif decide (askL r false b.Joins b.Leaves = 0) then
        bif decide ((b.Joins.length : Int) ≤ 64 - cntW (taken r) + b.Leaves.length) then 0 else 18
      else askL r false b.Joins b.Leaves
    else askL r true b.Leaves []
  else 31
abbrev c_ref09_Fits : Con := ⟨[.arr 64 (.st .entry), .st .batch], [.i], fun x => some (fits x.1 x.2.1, ())⟩

/-! ### Moves -/
def leaveGo : List Int → Roster → Roster × List Seat
  | [], r => (r, [])
  | w :: ws, r => ((leaveGo ws (Arr.put r (findR r w) zeroE)).1, ⟨w, findR r w⟩ :: (leaveGo ws (Arr.put r (findR r w) zeroE)).2)
/-- The least free slot. -/
def lowFree (r : Roster) : Int := match fstN 64 (fun s => !isOn r s) 0 with | some s => (s : Int) | none => 64
def joinGo (since : Int) : List Int → Int → Roster → Roster × List Seat
  | [], _, r => (r, [])
  | w :: ws, b, r => ((joinGo since ws (b + 1) (Arr.put r (lowFree r) ⟨w, b, since⟩)).1, ⟨w, lowFree r⟩ :: (joinGo since ws (b + 1) (Arr.put r (lowFree r) ⟨w, b, since⟩)).2)
def namesFree (r : Roster) (base n : Int) : Bool := decide (n = 0) || (decide (1 ≤ base) && decide (base ≤ 32768 - n) && allN 64 fun s => !(decide (base ≤ (ent r s).Base) && decide ((ent r s).Base < base + n)))
abbrev zeroR : Roster := Vector.replicate 64 St.entry.zero
structure Moved where
  r : Roster
  left : List Seat
  joined : List Seat
  e : Int
def moveGo (r : Roster) (b : Batch) (since base : Int) : Moved := ⟨(joinGo since b.Joins base (leaveGo b.Leaves r).1).1, (leaveGo b.Leaves r).2, (joinGo since b.Joins base (leaveGo b.Leaves r).1).2, 0⟩
def move (r : Roster) (b : Batch) (since base : Int) : Moved :=
  bif decide (fits r b = 0) then
    bif decide (1 ≤ since) && decide (since ≤ 200) then
      bif namesFree r base b.Joins.length then moveGo r b since base else ⟨zeroR, [], [], 3⟩
    else ⟨zeroR, [], [], 19⟩
  else ⟨zeroR, [], [], fits r b⟩
abbrev c_ref09_Move : Con := ⟨[.arr 64 (.st .entry), .st .batch, .i, .i], [.arr 64 (.st .entry), .list (.st .seat), .list (.st .seat), .i],
  fun x => some ((move x.1 x.2.1 x.2.2.1 x.2.2.2.1).r, (move x.1 x.2.1 x.2.2.1 x.2.2.2.1).left, (move x.1 x.2.1 x.2.2.1 x.2.2.2.1).joined, (move x.1 x.2.1 x.2.2.1 x.2.2.2.1).e, ())⟩

/-! ### Steps -/
/-- The inner nodes above these seats. -/
def replaced (l : List Seat) : Int := (word (fun v => l.any fun s => below v (leaf s.Slot)) 21 : Nat)
abbrev c_ref11_Replaced : Con := ⟨[.list (.st .seat)], [.int .u32], fun x => some (replaced x.1, ())⟩
structure Stepped where
  t : Tree
  left : List Seat
  joined : List Seat
  e : Int
abbrev zeroT : Tree := St.zero .tree
def goneOf (r : Roster) (l : List Int) : List Seat := l.map fun w => ⟨w, findR r w⟩
def stepTurn (t : Tree) (b : Batch) : Keys × Int × Int := turn t.Keys (replaced (goneOf t.Roster b.Leaves)) t.Fresh
def stepMove (t : Tree) (b : Batch) : Moved := move t.Roster b (t.Epoch + 1) (stepTurn t b).2.1
def nextT (t : Tree) (b : Batch) : Stepped :=
  bif goodTree t then
    bif decide (t.Epoch = 200) then ⟨zeroT, [], [], 19⟩
    else bif decide (fits t.Roster b = 0) then
      bif decide ((stepTurn t b).2.2 = 0) then
        bif decide ((stepMove t b).e = 0) then ⟨⟨t.Epoch + 1, (stepTurn t b).2.1 + (stepMove t b).joined.length, (stepTurn t b).1, (stepMove t b).r⟩, (stepMove t b).left, (stepMove t b).joined, 0⟩
        else ⟨zeroT, [], [], (stepMove t b).e⟩
      else ⟨zeroT, [], [], (stepTurn t b).2.2⟩
    else ⟨zeroT, [], [], fits t.Roster b⟩
  else ⟨zeroT, [], [], 31⟩
abbrev c_ref11_Next : Con := ⟨[.st .tree, .st .batch], [.st .tree, .list (.st .seat), .list (.st .seat), .i],
  fun x => some ((nextT x.1 x.2.1).t, (nextT x.1 x.2.1).left, (nextT x.1 x.2.1).joined, (nextT x.1 x.2.1).e, ())⟩

/-! ### Messages of steps -/
def itemOf (t : Tree) (v fr : Int) : Item := ⟨v, fr, ⟨(ofT t fr).1, (ofT t v).1⟩⟩
def pathG (s : Int) : Arr 3 Int := bif decide (0 ≤ leaf s) then pathN s else zero3
/-- A replaced node's items: under its children's keys. -/
def nodeItems (t : Tree) (m : Int) (v : Nat) : List Item := bif inB m v then ((List.range 4).filter fun (i : Nat) => belowR t.Roster (child v i)).map fun (i : Nat) => itemOf t v (child v i) else []
/-- A joiner's items: what isn't replaced, under its leaf's key. -/
def joinItems (t : Tree) (m s : Int) : List Item := ((List.range 3).filter fun (i : Nat) => !inB m (Arr.get (pathG s) (i : Int))).map fun (i : Nat) => itemOf t (Arr.get (pathG s) (i : Int)) (leaf s)
def itemsUp (t : Tree) (m : Int) : Nat → List Item
  | 0 => []
  | n + 1 => nodeItems t m n ++ itemsUp t m n
def items (t : Tree) (left joined : List Seat) : List Item := itemsUp t (replaced left) 21 ++ joined.flatMap fun s => joinItems t (replaced left) s.Slot
def nextR (t : Tree) (b : Batch) : Tree × Rekey × Int :=
  bif decide ((nextT t b).e = 0) then ((nextT t b).t, ⟨(nextT t b).t.Epoch, (nextT t b).left, (nextT t b).joined, items (nextT t b).t (nextT t b).left (nextT t b).joined⟩, 0)
  else (zeroT, St.zero .rekey, (nextT t b).e)
end Go.Co.N
end

section
set_option maxRecDepth 100000
noncomputable section
namespace Go.Co.N
open Go Go.Co
def g_ref08_Places_r1 : (Int × Unit × Unit × Int × Unit) × (Vector Bool 64 × Vector Bool 64 × Unit) × Unit → Option (((Int × Unit × Unit × Int × Unit) × (Vector Bool 64 × Vector Bool 64 × Unit) × Unit) ⊕ ((Unit × Unit × Unit) × (Vector Bool 64 × Vector Bool 64 × Unit) × Unit))
  | ((a, _, _, b, _), (c, d, _), _) => bif decide (b < 64) then bif decide (0 ≤ b) && decide (b < 64) then some (Sum.inl ((IntKind.wrap IntKind.u64 (Int.tdiv a 2), (), (), IntKind.wrap IntKind.i64 (b + 1), ()), (c, Arr.put d b (decide (Int.tmod a 2 = 1)), ()), ())) else none else some (Sum.inr (((), (), ()), (c, d, ()), ()))
/-- coterie/coterieref08.Places -/
def g_ref08_Places : Int × Unit → Option (Vector Bool 64 × Unit)
  | (a, _) => Option.bind (lfp g_ref08_Places_r1 ((a, (), (), 0, ()), (Vector.replicate 64 false, Vector.replicate 64 false, ()), ())) fun z => some (z.snd.fst.snd.fst, ())
def g_ref08_Word_r1 : (Unit × Int × Int × Unit) × (Vector Bool 64 × Unit) × Unit → Option (((Unit × Int × Int × Unit) × (Vector Bool 64 × Unit) × Unit) ⊕ ((Int × Unit) × Unit × Unit))
  | ((_, a, b, _), (c, _), _) => bif decide (0 ≤ b) then bif decide (0 ≤ b) && decide (b < 64) then bif Arr.get c b then some (Sum.inl (((), IntKind.wrap IntKind.u64 (IntKind.wrap IntKind.u64 (a * 2) + 1), IntKind.wrap IntKind.i64 (b - 1), ()), (c, ()), ())) else some (Sum.inl (((), IntKind.wrap IntKind.u64 (a * 2), IntKind.wrap IntKind.i64 (b - 1), ()), (c, ()), ())) else none else some (Sum.inr ((a, ()), (), ()))
/-- coterie/coterieref08.Word -/
def g_ref08_Word : Vector Bool 64 × Unit → Option (Int × Unit)
  | (a, _) => Option.bind (lfp g_ref08_Word_r1 (((), 0, 63, ()), (a, ()), ())) fun z => some (z.fst.fst, ())
def g_ref08_List_r1 : (Unit × List Int × Int × Unit) × (Vector Bool 64 × Unit) × Unit → Option (((Unit × List Int × Int × Unit) × (Vector Bool 64 × Unit) × Unit) ⊕ ((List Int × Unit) × Unit × Unit))
  | ((_, a, b, _), (c, _), _) => bif decide (b < 64) then bif decide (0 ≤ b) && decide (b < 64) then bif Arr.get c b then bif decide ((List.length a + 1) * 8 ≤ 140737488355328) then some (Sum.inl (((), List.append a [b], IntKind.wrap IntKind.i64 (b + 1), ()), (c, ()), ())) else none else some (Sum.inl (((), a, IntKind.wrap IntKind.i64 (b + 1), ()), (c, ()), ())) else none else some (Sum.inr ((a, ()), (), ()))
/-- coterie/coterieref08.List -/
def g_ref08_List : Int × Unit → Option (List Int × Unit)
  | (a, _) => Option.bind (lfp g_ref08_List_r1 (((), [], 0, ()), (Arr.make (bitI a), ()), ())) fun z => some (z.fst.fst, ())
/-- coterie/coterieref08.Count -/
def g_ref08_Count : Int × Unit → Option (Int × Unit)
  | (a, _) => some ((↑(List.length (listW a)) : Int), ())
def g_ref09_Taken_r1 : (Unit × Unit × Int × Unit) × (Vector Entry 64 × Vector Bool 64 × Unit) × Unit → Option (((Unit × Unit × Int × Unit) × (Vector Entry 64 × Vector Bool 64 × Unit) × Unit) ⊕ ((Unit × Unit) × (Vector Bool 64 × Unit) × Unit))
  | ((_, _, a, _), (b, c, _), _) => bif decide (a < 64) then bif decide (0 ≤ a) && decide (a < 64) then bif decide (0 ≤ a) && decide (a < 64) then some (Sum.inl (((), (), IntKind.wrap IntKind.i64 (a + 1), ()), (b, Arr.put c a !decide ((Arr.get b a).Base = 0), ()), ())) else none else none else some (Sum.inr (((), ()), (c, ()), ()))
/-- coterie/coterieref09.Taken -/
def g_ref09_Taken : Vector Entry 64 × Unit → Option (Int × Unit)
  | (a, _) => Option.bind (lfp g_ref09_Taken_r1 (((), (), 0, ()), (a, Vector.replicate 64 false, ()), ())) fun z => some ((↑(word (fun i => Arr.get z.snd.fst.fst (↑i : Int)) 64) : Int), ())
/-- coterie/coterieref09.person -/
def g_ref09_person : Vector Entry 64 × Vector Bool 256 × Int × Bool × Unit → Option (Int × Unit)
  | (a, b, c, d, _) => bif decide (c < 0) then some (14, ()) else bif decide (256 ≤ c) then some (14, ()) else bif decide (0 ≤ c) && decide (c < 256) then bif Arr.get b c then some (15, ()) else bif d then bif !decide (0 ≤ findR a c) then some (16, ()) else bif !d then bif decide (0 ≤ findR a c) then some (17, ()) else some (0, ()) else some (0, ()) else bif !d then bif decide (0 ≤ findR a c) then some (17, ()) else some (0, ()) else some (0, ()) else none
def g_ref09_Fits_r1 : (Unit × Unit × Unit × List Int × Int × Int × Unit) × (Vector Entry 64 × Batch × Vector Bool 256 × Unit) × Unit → Option (((Unit × Unit × Unit × List Int × Int × Int × Unit) × (Vector Entry 64 × Batch × Vector Bool 256 × Unit) × Unit) ⊕ ((Int × Unit) × Unit × Unit ⊕ (Unit × Unit × Unit × Unit) × (Vector Entry 64 × Batch × Vector Bool 256 × Unit) × Unit))
  | ((_, _, _, a, b, c, _), (d, e, f, _), _) => bif decide (c < b) then bif decide (0 ≤ c) && decide (c < (↑(List.length a) : Int)) then bif !decide (personA d f (lat a c) true = 0) then some (Sum.inr (Sum.inl ((personA d f (lat a c) true, ()), (), ()))) else bif decide (0 ≤ lat a c) && decide (lat a c < 256) then some (Sum.inl (((), (), (), a, b, IntKind.wrap IntKind.i64 (c + 1), ()), (d, e, Arr.put f (lat a c) true, ()), ())) else none else none else some (Sum.inr (Sum.inr (((), (), (), ()), (d, e, f, ()), ())))
def g_ref09_Fits_r2 : (Unit × Unit × Unit × List Int × Int × Int × Unit) × (Vector Entry 64 × Batch × Vector Bool 256 × Unit) × Unit → Option (((Unit × Unit × Unit × List Int × Int × Int × Unit) × (Vector Entry 64 × Batch × Vector Bool 256 × Unit) × Unit) ⊕ ((Int × Unit) × Unit × Unit ⊕ (Unit × Unit × Unit) × (Vector Entry 64 × Batch × Unit) × Unit))
  | ((_, _, _, a, b, c, _), (d, e, f, _), _) => bif decide (c < b) then bif decide (0 ≤ c) && decide (c < (↑(List.length a) : Int)) then bif !decide (personA d f (lat a c) false = 0) then some (Sum.inr (Sum.inl ((personA d f (lat a c) false, ()), (), ()))) else bif decide (0 ≤ lat a c) && decide (lat a c < 256) then some (Sum.inl (((), (), (), a, b, IntKind.wrap IntKind.i64 (c + 1), ()), (d, e, Arr.put f (lat a c) true, ()), ())) else none else none else some (Sum.inr (Sum.inr (((), (), ()), (d, e, ()), ())))
/-- coterie/coterieref09.Fits -/
def g_ref09_Fits : Vector Entry 64 × Batch × Unit → Option (Int × Unit)
  | (a, b, _) => bif !decide (chkR a = 0) then some (31, ()) else Option.bind (lfp g_ref09_Fits_r1 (((), (), (), b.Leaves, (↑(List.length b.Leaves) : Int), 0, ()), (a, b, Vector.replicate 256 false, ()), ())) fun z => Sum.elim (fun x => some (x.fst.fst, ())) (fun z => Option.bind (lfp g_ref09_Fits_r2 (((), (), (), z.snd.fst.snd.fst.Joins, (↑(List.length z.snd.fst.snd.fst.Joins) : Int), 0, ()), (z.snd.fst.fst, z.snd.fst.snd.fst, z.snd.fst.snd.snd.fst, ()), ())) fun z => Sum.elim (fun x => some (x.fst.fst, ())) (fun z => bif decide (IntKind.wrap IntKind.i64 (IntKind.wrap IntKind.i64 (64 - cntW (N.taken z.snd.fst.fst)) + (↑(List.length z.snd.fst.snd.fst.Leaves) : Int)) < (↑(List.length z.snd.fst.snd.fst.Joins) : Int)) then some (18, ()) else some (0, ())) z) z
def g_ref09_Move_r1 : (Int × Int × Unit × Unit × Unit × Int × Int × Unit) × (Vector Entry 64 × Batch × Vector Entry 64 × Unit) × Unit → Option (((Int × Int × Unit × Unit × Unit × Int × Int × Unit) × (Vector Entry 64 × Batch × Vector Entry 64 × Unit) × Unit) ⊕ ((Unit × Unit × Unit × Int × Unit) × (Vector Entry 64 × Unit) × Unit ⊕ (Int × Int × Unit × Unit × Unit × Unit) × (Vector Entry 64 × Batch × Vector Entry 64 × Unit) × Unit))
  | ((a, b, _, _, _, c, d, _), (e, f, g, _), _) => bif decide (d < 64) then bif decide (0 < c) then bif decide (0 ≤ d) && decide (d < 64) then bif decide (b ≤ (Arr.get e d).Base) then bif decide (0 ≤ d) && decide (d < 64) then bif decide ((Arr.get e d).Base < IntKind.wrap IntKind.i64 (b + c)) then some (Sum.inr (Sum.inl (((), (), (), 3, ()), (Vector.replicate 64 (St.zero St.entry), ()), ()))) else some (Sum.inl ((a, b, (), (), (), c, IntKind.wrap IntKind.i64 (d + 1), ()), (e, f, g, ()), ())) else none else some (Sum.inl ((a, b, (), (), (), c, IntKind.wrap IntKind.i64 (d + 1), ()), (e, f, g, ()), ())) else none else some (Sum.inr (Sum.inr ((a, b, (), (), (), ()), (e, f, g, ()), ()))) else some (Sum.inr (Sum.inr ((a, b, (), (), (), ()), (e, f, g, ()), ())))
def g_ref09_Move_r2 : (Int × Int × Unit × Unit × Unit × List Seat × Unit × List Int × Int × Int × Unit) × (Vector Entry 64 × Batch × Vector Entry 64 × Unit) × Unit → Option (((Int × Int × Unit × Unit × Unit × List Seat × Unit × List Int × Int × Int × Unit) × (Vector Entry 64 × Batch × Vector Entry 64 × Unit) × Unit) ⊕ ((Int × Int × Unit × Unit × Unit × List Seat × Unit × Unit) × (Vector Entry 64 × Batch × Vector Entry 64 × Unit) × Unit))
  | ((a, b, _, _, _, c, _, d, e, f, _), (g, h, i, _), _) => bif decide (f < e) then bif decide (0 ≤ f) && decide (f < (↑(List.length d) : Int)) then bif decide ((List.length c + 1) * 16 ≤ 140737488355328) then bif decide (0 ≤ findR g (lat d f)) && decide (findR g (lat d f) < 64) then some (Sum.inl ((a, b, (), (), (), List.append c [Seat.mk (lat d f) (findR g (lat d f))], (), d, e, IntKind.wrap IntKind.i64 (f + 1), ()), (Arr.put g (findR g (lat d f)) (Entry.mk 0 0 0), h, i, ()), ())) else none else none else none else some (Sum.inr ((a, b, (), (), (), c, (), ()), (g, h, i, ()), ()))
def g_ref09_Move_r4 : (Int × Int × Unit × Unit × List Seat × List Seat × Int × Int × Int × List Int × Int × Int × Unit) × (Vector Entry 64 × Vector Entry 64 × Unit) × Unit → Option (((Int × Int × Unit × Unit × List Seat × List Seat × Int × Int × Int × List Int × Int × Int × Unit) × (Vector Entry 64 × Vector Entry 64 × Unit) × Unit) ⊕ ((Int × Int × Unit × Unit × List Seat × List Seat × Int × Int × Int × List Int × Int × Int × Unit) × (Vector Entry 64 × Vector Entry 64 × Unit) × Unit))
  | ((a, b, _, _, c, d, e, f, g, h, i, j, _), (k, l, _), _) => bif decide (0 ≤ g) && decide (g < 64) then bif !decide ((Arr.get k g).Base = 0) then some (Sum.inl ((a, b, (), (), c, d, e, f, IntKind.wrap IntKind.i64 (g + 1), h, i, j, ()), (k, l, ()), ())) else some (Sum.inr ((a, b, (), (), c, d, e, f, g, h, i, j, ()), (k, l, ()), ())) else none
def g_ref09_Move_r3 : (Int × Int × Unit × Unit × List Seat × List Seat × List Int × Int × Int × Unit) × (Vector Entry 64 × Vector Entry 64 × Unit) × Unit → Option (((Int × Int × Unit × Unit × List Seat × List Seat × List Int × Int × Int × Unit) × (Vector Entry 64 × Vector Entry 64 × Unit) × Unit) ⊕ ((Unit × Unit × List Seat × List Seat × Unit) × (Vector Entry 64 × Vector Entry 64 × Unit) × Unit))
  | ((a, b, _, _, c, d, e, f, g, _), (h, i, _), _) => bif decide (g < f) then bif decide (0 ≤ g) && decide (g < (↑(List.length e) : Int)) then Option.bind (lfp g_ref09_Move_r4 ((a, b, (), (), c, d, g, lat e g, 0, e, f, g, ()), (h, i, ()), ())) fun z => bif decide (0 ≤ z.fst.snd.snd.snd.snd.snd.snd.snd.snd.fst) && decide (z.fst.snd.snd.snd.snd.snd.snd.snd.snd.fst < 64) then bif decide ((List.length z.fst.snd.snd.snd.snd.snd.fst + 1) * 16 ≤ 140737488355328) then some (Sum.inl ((z.fst.fst, z.fst.snd.fst, (), (), z.fst.snd.snd.snd.snd.fst, List.append z.fst.snd.snd.snd.snd.snd.fst [Seat.mk z.fst.snd.snd.snd.snd.snd.snd.snd.fst z.fst.snd.snd.snd.snd.snd.snd.snd.snd.fst], z.fst.snd.snd.snd.snd.snd.snd.snd.snd.snd.fst, z.fst.snd.snd.snd.snd.snd.snd.snd.snd.snd.snd.fst, IntKind.wrap IntKind.i64 (z.fst.snd.snd.snd.snd.snd.snd.snd.snd.snd.snd.snd.fst + 1), ()), (Arr.put z.snd.fst.fst z.fst.snd.snd.snd.snd.snd.snd.snd.snd.fst (Entry.mk z.fst.snd.snd.snd.snd.snd.snd.snd.fst (IntKind.wrap IntKind.i64 (z.fst.snd.fst + z.fst.snd.snd.snd.snd.snd.snd.fst)) z.fst.fst), z.snd.fst.snd.fst, ()), ())) else none else none else none else some (Sum.inr (((), (), c, d, ()), (h, i, ()), ()))
/-- coterie/coterieref09.Move -/
def g_ref09_Move : Vector Entry 64 × Batch × Int × Int × Unit → Option (Vector Entry 64 × List Seat × List Seat × Int × Unit)
  | (a, b, c, d, _) => bif !decide (fits a b = 0) then some (Vector.replicate 64 (St.zero St.entry), [], [], fits a b, ()) else bif decide (c < 1) then some (Vector.replicate 64 (St.zero St.entry), [], [], 19, ()) else bif decide (200 < c) then some (Vector.replicate 64 (St.zero St.entry), [], [], 19, ()) else bif decide (0 < (↑(List.length b.Joins) : Int)) then bif decide (d < 1) then some (Vector.replicate 64 (St.zero St.entry), [], [], 3, ()) else bif decide (IntKind.wrap IntKind.i64 (32768 - (↑(List.length b.Joins) : Int)) < d) then some (Vector.replicate 64 (St.zero St.entry), [], [], 3, ()) else Option.bind (lfp g_ref09_Move_r1 ((c, d, (), (), (), (↑(List.length b.Joins) : Int), 0, ()), (a, b, Vector.replicate 64 (St.zero St.entry), ()), ())) fun z => Sum.elim (fun x => some (x.snd.fst.fst, [], [], x.fst.snd.snd.snd.fst, ())) (fun z => Option.bind (lfp g_ref09_Move_r2 ((z.fst.fst, z.fst.snd.fst, (), (), (), [], (), z.snd.fst.snd.fst.Leaves, (↑(List.length z.snd.fst.snd.fst.Leaves) : Int), 0, ()), (z.snd.fst.fst, z.snd.fst.snd.fst, z.snd.fst.snd.snd.fst, ()), ())) fun z => Option.bind (lfp g_ref09_Move_r3 ((z.fst.fst, z.fst.snd.fst, (), (), z.fst.snd.snd.snd.snd.snd.fst, [], z.snd.fst.snd.fst.Joins, (↑(List.length z.snd.fst.snd.fst.Joins) : Int), 0, ()), (z.snd.fst.fst, z.snd.fst.snd.snd.fst, ()), ())) fun z => some (z.snd.fst.fst, z.fst.snd.snd.fst, z.fst.snd.snd.snd.fst, 0, ())) z else Option.bind (lfp g_ref09_Move_r1 ((c, d, (), (), (), (↑(List.length b.Joins) : Int), 0, ()), (a, b, Vector.replicate 64 (St.zero St.entry), ()), ())) fun z => Sum.elim (fun x => some (x.snd.fst.fst, [], [], x.fst.snd.snd.snd.fst, ())) (fun z => Option.bind (lfp g_ref09_Move_r2 ((z.fst.fst, z.fst.snd.fst, (), (), (), [], (), z.snd.fst.snd.fst.Leaves, (↑(List.length z.snd.fst.snd.fst.Leaves) : Int), 0, ()), (z.snd.fst.fst, z.snd.fst.snd.fst, z.snd.fst.snd.snd.fst, ()), ())) fun z => Option.bind (lfp g_ref09_Move_r3 ((z.fst.fst, z.fst.snd.fst, (), (), z.fst.snd.snd.snd.snd.snd.fst, [], z.snd.fst.snd.fst.Joins, (↑(List.length z.snd.fst.snd.fst.Joins) : Int), 0, ()), (z.snd.fst.fst, z.snd.fst.snd.snd.fst, ()), ())) fun z => some (z.snd.fst.fst, z.fst.snd.snd.fst, z.fst.snd.snd.snd.fst, 0, ())) z
def g_ref11_Replaced_r2 : (List Seat × Int × Int × Int × List Seat × Int × Int × Unit) × Unit × Unit → Option (((List Seat × Int × Int × Int × List Seat × Int × Int × Unit) × Unit × Unit) ⊕ ((List Seat × Int × Int × Int × Unit) × Unit × Unit))
  | ((a, b, c, d, e, f, g, _), _, _) => bif decide (g < f) then bif decide (0 ≤ g) && decide (g < (↑(List.length e) : Int)) then bif below d (leaf (lat e g).Slot) then some (Sum.inr ((a, IntKind.wrap IntKind.u32 (b + c), c, d, ()), (), ())) else some (Sum.inl ((a, b, c, d, e, f, IntKind.wrap IntKind.i64 (g + 1), ()), (), ())) else none else some (Sum.inr ((a, b, c, d, ()), (), ()))
def g_ref11_Replaced_r1 : (List Seat × Int × Int × Int × Unit) × Unit × Unit → Option (((List Seat × Int × Int × Int × Unit) × Unit × Unit) ⊕ ((Int × Unit) × Unit × Unit))
  | ((a, b, c, d, _), _, _) => bif decide (d < 21) then Option.bind (lfp g_ref11_Replaced_r2 ((a, b, c, d, a, (↑(List.length a) : Int), 0, ()), (), ())) fun z => some (Sum.inl ((z.fst.fst, z.fst.snd.fst, IntKind.wrap IntKind.u32 (z.fst.snd.snd.fst * 2), IntKind.wrap IntKind.i64 (z.fst.snd.snd.snd.fst + 1), ()), (), ())) else some (Sum.inr ((b, ()), (), ()))
/-- coterie/coterieref11.Replaced -/
def g_ref11_Replaced : List Seat × Unit → Option (Int × Unit)
  | (a, _) => Option.bind (lfp g_ref11_Replaced_r1 ((a, 0, 1, 0, ()), (), ())) fun z => some (z.fst.fst, ())
def g_ref11_Next_r1 : (Unit × Unit × Unit × List Seat × List Int × Int × Int × Unit) × (Tree × Batch × Tree × Unit) × Unit → Option (((Unit × Unit × Unit × List Seat × List Int × Int × Int × Unit) × (Tree × Batch × Tree × Unit) × Unit) ⊕ ((Unit × Unit × Unit × List Seat × Unit) × (Tree × Batch × Tree × Unit) × Unit))
  | ((_, _, _, a, b, c, d, _), (e, f, g, _), _) => bif decide (d < c) then bif decide (0 ≤ d) && decide (d < (↑(List.length b) : Int)) then bif decide ((List.length a + 1) * 16 ≤ 140737488355328) then some (Sum.inl (((), (), (), List.append a [Seat.mk (lat b d) (findR e.Roster (lat b d))], b, c, IntKind.wrap IntKind.i64 (d + 1), ()), (e, f, g, ()), ())) else none else none else some (Sum.inr (((), (), (), a, ()), (e, f, g, ()), ()))
/-- coterie/coterieref11.Next -/
def g_ref11_Next : Tree × Batch × Unit → Option (Tree × List Seat × List Seat × Int × Unit)
  | (a, b, _) => bif !decide (chkT a = 0) then some (Tree.mk 0 0 (Vector.replicate 21 (St.zero St.key)) (Vector.replicate 64 (St.zero St.entry)), [], [], 31, ()) else bif decide (a.Epoch = 200) then some (Tree.mk 0 0 (Vector.replicate 21 (St.zero St.key)) (Vector.replicate 64 (St.zero St.entry)), [], [], 19, ()) else bif !decide (fits a.Roster b = 0) then some (Tree.mk 0 0 (Vector.replicate 21 (St.zero St.key)) (Vector.replicate 64 (St.zero St.entry)), [], [], fits a.Roster b, ()) else Option.bind (lfp g_ref11_Next_r1 (((), (), (), [], b.Leaves, (↑(List.length b.Leaves) : Int), 0, ()), (a, b, St.zero St.tree, ()), ())) fun z => bif !decide ((turn z.snd.fst.fst.Keys (replaced z.fst.snd.snd.snd.fst) z.snd.fst.fst.Fresh).snd.snd = 0) then some (Tree.mk 0 0 (Vector.replicate 21 (St.zero St.key)) (Vector.replicate 64 (St.zero St.entry)), [], [], (turn z.snd.fst.fst.Keys (replaced z.fst.snd.snd.snd.fst) z.snd.fst.fst.Fresh).snd.snd, ()) else bif !decide ((N.move z.snd.fst.fst.Roster z.snd.fst.snd.fst (IntKind.wrap IntKind.i64 (z.snd.fst.fst.Epoch + 1)) (turn z.snd.fst.fst.Keys (replaced z.fst.snd.snd.snd.fst) z.snd.fst.fst.Fresh).snd.fst).e = 0) then some (Tree.mk 0 0 (Vector.replicate 21 (St.zero St.key)) (Vector.replicate 64 (St.zero St.entry)), [], [], (N.move z.snd.fst.fst.Roster z.snd.fst.snd.fst (IntKind.wrap IntKind.i64 (z.snd.fst.fst.Epoch + 1)) (turn z.snd.fst.fst.Keys (replaced z.fst.snd.snd.snd.fst) z.snd.fst.fst.Fresh).snd.fst).e, ()) else some (Tree.mk (IntKind.wrap IntKind.i64 (z.snd.fst.fst.Epoch + 1)) (IntKind.wrap IntKind.i64 ((turn z.snd.fst.fst.Keys (replaced z.fst.snd.snd.snd.fst) z.snd.fst.fst.Fresh).snd.fst + (↑(List.length (N.move z.snd.fst.fst.Roster z.snd.fst.snd.fst (IntKind.wrap IntKind.i64 (z.snd.fst.fst.Epoch + 1)) (turn z.snd.fst.fst.Keys (replaced z.fst.snd.snd.snd.fst) z.snd.fst.fst.Fresh).snd.fst).joined) : Int))) (turn z.snd.fst.fst.Keys (replaced z.fst.snd.snd.snd.fst) z.snd.fst.fst.Fresh).fst (N.move z.snd.fst.fst.Roster z.snd.fst.snd.fst (IntKind.wrap IntKind.i64 (z.snd.fst.fst.Epoch + 1)) (turn z.snd.fst.fst.Keys (replaced z.fst.snd.snd.snd.fst) z.snd.fst.fst.Fresh).snd.fst).r, (N.move z.snd.fst.fst.Roster z.snd.fst.snd.fst (IntKind.wrap IntKind.i64 (z.snd.fst.fst.Epoch + 1)) (turn z.snd.fst.fst.Keys (replaced z.fst.snd.snd.snd.fst) z.snd.fst.fst.Fresh).snd.fst).left, (N.move z.snd.fst.fst.Roster z.snd.fst.snd.fst (IntKind.wrap IntKind.i64 (z.snd.fst.fst.Epoch + 1)) (turn z.snd.fst.fst.Keys (replaced z.fst.snd.snd.snd.fst) z.snd.fst.fst.Fresh).snd.fst).joined, 0, ())
end Go.Co.N
end
end

section
namespace Go.Co.N
open Go Go.Co

/-! ### Members -/
def betw (n lo hi : Int) : Bool := decide (lo ≤ n) && decide (n ≤ hi)
theorem betw_iff {n lo hi : Int} : betw n lo hi = true ↔ lo ≤ n ∧ n ≤ hi := by simp [betw]
def goodCard (c : Card) : Bool := betw c.Who 0 255 && betw c.Slot 0 63 && betw c.Epoch 1 200 && good c.Leaf
def outM (who epoch : Int) : Member := ⟨who, 0, epoch, St.key.zero, zeroP, false, true, 0⟩
def goodPath (p : Path) : Bool := allN 3 fun i => good (Arr.get p (i : Int))
def calmB (m : Member) : Bool := decide (m.Behind = 0) || betw m.Behind (m.Epoch + 1) 200
def kind (m : Member) : Int :=
  bif decide (m = zeroM) then 0
  else bif m.Out then (bif decide (m = outM m.Who m.Epoch) && betw m.Who 0 255 && betw m.Epoch 1 200 then 1 else -1)
  else bif goodCard (cardOf m) && calmB m then
    (bif m.Has then (bif goodPath m.Path then 3 else -1) else (bif decide (m.Path = zeroP) then 2 else -1))
  else -1
/-! ### Messages' parts -/
abbrev c_shape_Below : Con := ⟨[.i, .i], [.bool], fun x => some (below x.1 x.2.1, ())⟩
/-! ### Sealed texts -/
def cmpI (a b : Int) : Int := bif decide (a < b) then -1 else bif decide (b < a) then 1 else 0
/-! ### The laws of chapter 17 -/
end Go.Co.N
end

section
set_option maxRecDepth 100000
noncomputable section
namespace Go.Co.N
open Go Go.Co
/-- coterie/shape.Below -/
def g_shape_Below : Int × Int × Unit → Option (Bool × Unit)
  | (a, b, _) => bif decide (level a < 0) then some (false, ()) else bif decide (level b < 0) then some (false, ()) else some (decide (bw BinOp.and IntKind.u64 (mask a) (mask b) = mask b), ())
end Go.Co.N
end
end

section
namespace Go.Co.N
open Go Go.Co

def aboveM (s : Int) : Int := (word (fun v => !decide (bw .and .u64 (mask v) s = 0)) 21 : Nat)
abbrev c_shape_Above : Con := ⟨[.int .u64], [.int .u32], fun x => some (aboveM x.1, ())⟩
abbrev c_plan_Replaced : Con := ⟨[.list (.st .seat)], [.int .u32], fun x => some (replaced x.1, ())⟩
/-! ### The laws of chapter 15 -/
end Go.Co.N
end

section
set_option maxRecDepth 100000
noncomputable section
namespace Go.Co.N
open Go Go.Co
def g_shape_Above_r1 : (Int × Int × Int × Unit) × Unit × Unit → Option (((Int × Int × Int × Unit) × Unit × Unit) ⊕ ((Int × Unit) × Unit × Unit))
  | ((a, b, c, _), _, _) => bif decide (c < 21) then bif !decide (bw BinOp.and IntKind.u64 (mask c) a = 0) then some (Sum.inl ((a, bw BinOp.or IntKind.u32 b (shlI IntKind.u32 1 (IntKind.wrap IntKind.u64 c)), IntKind.wrap IntKind.i64 (c + 1), ()), (), ())) else some (Sum.inl ((a, b, IntKind.wrap IntKind.i64 (c + 1), ()), (), ())) else some (Sum.inr ((b, ()), (), ()))
/-- coterie/shape.Above -/
def g_shape_Above : Int × Unit → Option (Int × Unit)
  | (a, _) => Option.bind (lfp g_shape_Above_r1 ((a, 0, 0, ()), (), ())) fun z => some (z.fst.fst, ())
def g_plan_Replaced_r1 : (Int × List Seat × Int × Int × Unit) × Unit × Unit → Option (((Int × List Seat × Int × Int × Unit) × Unit × Unit) ⊕ ((Int × Unit) × Unit × Unit))
  | ((a, b, c, d, _), _, _) => bif decide (d < c) then bif decide (0 ≤ d) && decide (d < (↑(List.length b) : Int)) then some (Sum.inl ((bw BinOp.or IntKind.u64 a (mask (leaf (lat b d).Slot)), b, c, IntKind.wrap IntKind.i64 (d + 1), ()), (), ())) else none else some (Sum.inr ((a, ()), (), ()))
/-- coterie/plan.Replaced -/
def g_plan_Replaced : List Seat × Unit → Option (Int × Unit)
  | (a, _) => Option.bind (lfp g_plan_Replaced_r1 ((0, a, (↑(List.length a) : Int), 0, ()), (), ())) fun z => some (aboveM z.fst.fst, ())
end Go.Co.N
end
end

section
namespace Go.Co.N
open Go Go.Co

def sealK (u l : Key) : Box × Int := bif good u && good l then (⟨u, l⟩, 0) else (St.zero .box, 3)
abbrev c_key_Seal : Con := ⟨[.st .key, .st .key], [.st .box, .i], fun x => some ((sealK x.1 x.2.1).1, (sealK x.1 x.2.1).2, ())⟩
/-! ### The laws of chapter 16 -/
end Go.Co.N
end

section
set_option maxRecDepth 100000
noncomputable section
namespace Go.Co.N
open Go Go.Co
/-- coterie/key.Seal -/
def g_key_Seal : Key × Key × Unit → Option (Box × Int × Unit)
  | (a, b, _) => bif !good a then some (Box.mk (St.zero St.key) (St.zero St.key), 3, ()) else bif !good b then some (Box.mk (St.zero St.key) (St.zero St.key), 3, ()) else some (Box.mk a b, 0, ())
end Go.Co.N
end
end
