/-
  Loops gone through round by round.
  Own text, for the claims about coterie.
-/
import Derived.Test.YtpbjflmdoboklaaCoFun
namespace Go.Co
open Go.RowKit

def unroll (ev : (R : Type) → AS → (AExit → AS → Option R) → Option R) : Nat → (R : Type) → AS → (AExit → AS → Option R) → Option R
  | 0, _, _, _ => none
  | k + 1, R, s, K => ev R s fun e s' => match e with
    | .normal => unroll ev k R s' K
    | e => K e s'
def lpU (k : Nat) (_ : Nat) (ev : (R : Type) → AS → (AExit → AS → Option R) → Option R) (R : Type) (s : AS) (K : AExit → AS → Option R) : Option R := unroll ev k R s K
/-- Inside the loop, a round before it. -/
def LW (P : Program) (c : Code) (Q : Exit → Act → World → Prop) (a : Act) (w : World) : Prop :=
  ∀ (b : Frame) (k : List Go.Item) (cs : List Frame), ∃ e a' w', Q e a' w' ∧ Arrives P (lone (b.at a (.code c :: .inLoop c :: k)) cs w) b k cs e a' w'
theorem LW.loop {P : Program} {c : Code} {Q : Exit → Act → World → Prop} {a : Act} {w : World} (h : LW P c Q a w) : (Code.loop c).wp P Q a w := by
  intro b k cs
  obtain ⟨e, a', w', hq, harr⟩ := h b k cs
  exact ⟨e, a', w', hq, .of_steps (.one step_loop) harr⟩
theorem LW.round {P : Program} {c : Code} {Q : Exit → Act → World → Prop} {a : Act} {w : World} (h : c.wp P (Exit.then (LW P c Q) Q) a w) : LW P c Q a w := by
  intro b k cs
  obtain ⟨e, a₁, w₁, hq, harr⟩ := h b (.inLoop c :: k) cs
  cases e with
  | normal =>
    obtain ⟨e₂, a₂, w₂, hq₂, harr₂⟩ := hq b k cs
    exact ⟨e₂, a₂, w₂, hq₂, .of_steps (Steps.trans harr (.one step_inLoop)) harr₂⟩
  | exit id => exact ⟨_, a₁, w₁, hq, .pass (x := .inLoop c) rfl (fun _ _ => .inl (by simp)) harr⟩
  | goto l => exact ⟨_, a₁, w₁, hq, .pass (x := .inLoop c) rfl (fun _ _ => .inl (by simp)) harr⟩
  | ret => exact ⟨_, a₁, w₁, hq, .pass (x := .inLoop c) rfl (fun _ _ => .inl (by simp)) harr⟩
  | panic ch => exact ⟨_, a₁, w₁, hq, .pass (x := .inLoop c) rfl (fun _ _ => .inl (by simp)) harr⟩
  | outgrown => exact ⟨_, a₁, w₁, hq, .pass (x := .inLoop c) rfl (fun _ _ => .inl (by simp)) harr⟩
theorem unroll_ok {P : Program} {C : Ctx} {n : Nat} {body : Code} {ev : (R : Type) → AS → (AExit → AS → Option R) → Option R} (hev : EvOK P C n body ev) : ∀ (k : Nat) (R : Type) (s : AS) (K : AExit → AS → Option R) (y : R), unroll ev k R s K = some y →
    ∃ r s', s.nx ≤ s'.nx ∧ (∀ (U : Nat → Prop) (e : Env) (a : Act) (Q : Exit → Act → World → Prop), free U s.nx s'.nx → Fit C n U e s a → (∀ e' a', Fit C n (taken U s.nx s'.nx) e' s' a' → Ext e e' → Frm e s.mem e' s'.mem → Q r.toExit a' e'.w) → LW P body Q a e.w) ∧ K r s' = some y
  | 0, R, s, K, y, h => by simp [unroll] at h
  | k + 1, R, s, K, y, h => by
    simp only [unroll] at h
    obtain ⟨r, s1, h1, h2⟩ := hev _ _ _ _ h
    cases r with
    | normal =>
      obtain ⟨r2, s2, h3, h4, h5⟩ := unroll_ok hev k R s1 K y h2
      refine ⟨r2, s2, Nat.le_trans h1.1 h3, fun U e a Q hu hf hq => .round (h1.2 U e a _ (free_left hu h3) hf fun e1 a1 g1 g2 g3 => ?_), h5⟩
      exact h4 _ e1 a1 Q (free_right hu h1.1) g1 fun e2 a2 k1 k2 k3 => hq e2 a2 (k1.widen fun b hb => (taken_taken h1.1 h3).1 hb) (g2.trans k2) (g3.trans k3)
    | exit id => exact ⟨_, s1, h1.1, fun U e a Q hu hf hq => .round (h1.2 U e a _ hu hf fun e1 a1 g1 g2 g3 => hq e1 a1 g1 g2 g3), h2⟩
    | ret => exact ⟨_, s1, h1.1, fun U e a Q hu hf hq => .round (h1.2 U e a _ hu hf fun e1 a1 g1 g2 g3 => hq e1 a1 g1 g2 g3), h2⟩
theorem lpU_ok {P : Program} {C : Ctx} {n k : Nat} {E : EE} (hE : E.lp = lpU k) : LpOK P C n E := by
  intro body hbody R s K y h
  rw [hE] at h
  obtain ⟨r, s', h1, h2, h3⟩ := unroll_ok hbody k R s K y h
  exact ⟨r, s', ⟨h1, fun U e a Q hu hf hq => (h2 U e a Q hu hf hq).loop⟩, h3⟩
end Go.Co
