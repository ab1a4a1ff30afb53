/-
  One operation: what the model's run of it gives, calls to functions with a known answer among them.
  Own text, for the claims about coterie.
-/
import Derived.Test.YtghmcodjbkmlnaaCoOps8
import Derived.Test.YtghmcodjbkmlnaaCoLp
namespace Go.Co
open Go.RowKit

/-! ### Functions with a known answer -/
def argsRd (w : World) (im : Nat → Prop) : (l : List Ty) → denL l → List Value → Prop
  | [], _, [] => True
  | t :: r, x, v :: vs => (∃ cs, v = pk t.agg cs ∧ Rd w im t x.1 cs) ∧ argsRd w im r x.2 vs
  | _, _, _ => False
/-- A function that can be called by its number. -/
def FnOK (P : Program) (f : Nat) : Prop := ∃ fn, P.funcs[f]? = some fn ∧ (fn.name == "runtime.NumGoroutine") = false ∧ fn.body.isNone = false
/-- The answer: c's. Nothing of old is written. -/
structure ConOK (P : Program) (f : Nat) (c : Con) : Prop where
  fn : FnOK P f
  args : ∀ t ∈ c.args, plainTy t = true
  run : ∀ (w : World) (I : Nat → Prop) x xs y, (∀ k, I k → k < w.heap.size) → argsRd w I c.args x xs → c.fn x = some y →
    Calls P f xs.toArray w fun e w' => ∃ z, e = .returned z ∧ Blw w.heap.size w w' ∧ RV ⟨fun _ => none, w', fun k => k < w'.heap.size ∧ (k < w.heap.size → I k)⟩ (resAV c.res y) z

section
variable {C : Ctx} {E : Env} {m : Mem} {U : Nat → Prop}
theorem MR.widen {U' : Nat → Prop} (h : MR C E m U) (hu : ∀ b, U b → U' b) : MR C E m U' := ⟨h.below, h.blocks, h.own, h.inj, h.immLt, h.immI, fun b bt hb => hu b (h.nx b bt hb)⟩

theorem toPureL_ok (hm : MR C E m U) {im : Nat → Prop} (h1 : ∀ k, E.imm k → im k) : ∀ (l : List Ty) (vs : List AV) (xs : List Value) (x : denL l), (∀ t ∈ l, plainTy t = true) → toPureL m l vs = some x → All2 (RV E) vs xs →
    (∀ v ∈ vs, ∀ b bt k, rowsOf v b → live (m b) → E.ρ b = some bt → bt.base = some k → im k) → argsRd E.w im l x xs
  | [], [], [], _, _, _, _, _ => trivial
  | [], _ :: _, _, _, _, h, _, _ => by simp [toPureL] at h
  | [], [], _ :: _, _, _, _, h, _ => h.elim
  | _ :: _, [], _, _, _, h, _, _ => by simp [toPureL] at h
  | _ :: _, _ :: _, [], _, _, _, h, _ => h.elim
  | t :: r, v :: vs, z :: zs, x, ht, h, hz, hk => by
    simp only [toPureL] at h
    split at h
    · rename_i p q hp hq
      cases h
      have hpt := ht t (by simp)
      obtain ⟨c, rfl, hc⟩ := hz.1.cells (by rintro rfl; simp [toPure] at hp) (by rintro l rfl; simp [toPure] at hp)
      have hvn : v ≠ .nil := by rintro rfl; cases t <;> simp [toPure] at hp; simp [plainTy] at hpt
      have hvc : ∀ a l, v ≠ .cons a l := by rintro a l rfl; cases t <;> simp [toPure] at hp; simp [plainTy] at hpt
      refine ⟨⟨c, by rw [toPure_agg hp hvn hvc], toPure_RC hm h1 v t p c hp hc (hk v (by simp))⟩, toPureL_ok hm h1 r vs zs q (fun t h => ht t (by simp [h])) hq hz.2 fun v hv => hk v (by simp [hv])⟩
    · cases h

theorem RVs_resVs_nolist {E E' : Env} : ∀ (l : List Ty) (y : denL l) (zs : List Value), l.any Ty.lists = false → RVs E (resVs l y) zs → RVs E' (resVs l y) zs
  | [], _, _, _, h => h
  | t :: r, y, zs, hl, h => by
    simp at hl
    obtain ⟨cs, zs', rfl, h1, h2⟩ := h
    exact ⟨cs, zs', rfl, Rd.nolist _ _ _ hl.1 h1, RVs_resVs_nolist r y.2 zs' (by simpa using hl.2) h2⟩
theorem RV_res_nolist {E E' : Env} : ∀ (l : List Ty) (y : denL l) (z : Value), l.any Ty.lists = false → RV E (resAV l y) z → RV E' (resAV l y) z
  | [t], y, z, hl, h => by
    obtain ⟨cs, rfl, h⟩ := h
    exact ⟨cs, rfl, Rd.nolist _ _ _ (by simpa using hl) h⟩
  | [], y, z, hl, ⟨zs, h1, h2⟩ => ⟨zs, h1, h2⟩
  | t :: u :: r, y, z, hl, h => by
    obtain ⟨zs, rfl, h⟩ := h
    exact ⟨zs, rfl, RVs_resVs_nolist (t :: u :: r) y zs hl h⟩
end

/-! ### An operation's run -/
/-- What a run of an operation comes to. -/
def OpRun (P : Program) (o : Oper) (σ : Operand → Value) (w : World) (R : Value → World → Prop) : Prop :=
  match (execOp σ o).run P w with
  | .ok (.value v) w' => R v w'
  | .ok .skip w' => R undef w'
  | .ok (.enter f args) w' => Calls P f args w' fun e w'' => ∃ z, e = .returned z ∧ R z w''
  | _ => False
theorem OpRun.mono {P : Program} {o : Oper} {σ : Operand → Value} {w : World} {R R' : Value → World → Prop} (h : OpRun P o σ w R) (hr : ∀ v w', R v w' → R' v w') : OpRun P o σ w R' := by
  unfold OpRun at *
  generalize (execOp σ o).run P w = r at *
  cases r with
  | ok n w' =>
    cases n <;> first
      | exact h.elim
      | exact hr _ _ h
      | exact Calls.mono h (fun e w'' ⟨z, he, hz⟩ => ⟨z, he, hr _ _ hz⟩)
  | halt => exact h
theorem OpRun.wp {P : Program} {o : Oper} {a : Act} {w : World} {next : Act → World → Prop} {Q : Exit → Act → World → Prop} (h : OpRun P o a.eval w fun v w' => next (a.put o.dst v) w') : o.wp P a w next Q := by
  unfold Oper.wp
  unfold OpRun at h
  generalize (execOp a.eval o).run P w = r at *
  cases r with
  | ok n w' =>
    cases n <;> simp only [Oper.upon] <;> first
      | exact h.elim
      | exact h
      | exact Calls.mono h (fun e w'' ⟨z, he, hz⟩ => by subst he; exact hz)
  | halt => exact h.elim
/-- What holds behind it. -/
def Res (C : Ctx) (E : Env) (m : Mem) (U : Nat → Prop) (lo hi : Nat) (v : AV) (m' : Mem) (z : Value) (w' : World) : Prop :=
  ∃ E', E'.w = w' ∧ Ext E E' ∧ MR C E' m' (fun b => U b ∨ (lo ≤ b ∧ b < hi)) ∧ Frm E m E' m' ∧ RV E' v z
theorem Res.same {C : Ctx} {E : Env} {m : Mem} {U : Nat → Prop} {lo : Nat} {v : AV} {z : Value} (hm : MR C E m U) (hv : RV E v z) : Res C E m U lo lo v m z E.w :=
  ⟨E, rfl, Ext.refl _, hm.widen fun _ h => .inl h, Frm.refl _ _, hv⟩

/-- The handler of calls that are gone into. -/
def InlOK (P : Program) (C : Ctx) (inl : (R : Type) → Nat → List AV → Mem → Nat → KO R → Option R) : Prop :=
  ∀ R f vs m nx K y, inl R f vs m nx K = some y → FnOK P f ∧ ∃ v m' nx', nx ≤ nx' ∧ K v m' nx' = some y ∧
    ∀ (E : Env) (xs : List Value) (U : Nat → Prop), All2 (RV E) vs xs → MR C E m U → (∀ b, nx ≤ b → b < nx' → ¬ U b) → Calls P f xs.toArray E.w fun e w' => ∃ z, e = .returned z ∧ Res C E m U nx nx' v m' z w'
structure EOK (P : Program) (C : Ctx) (E : EE) : Prop where
  tab : TabOK P E.T
  con : ∀ f c, conOf E.con f = some c → ConOK P f c
  inl : InlOK P C E.inl

theorem run_callFunc {P : Program} {f : Nat} (h : FnOK P f) (args : Array Value) (w : World) : (callFunc f args).run P w = .ok (.enter f args) w := by
  obtain ⟨fn, h1, h2, h3⟩ := h
  have h2' : ¬ fn.name = "runtime.NumGoroutine" := by simpa using h2
  have h3' : ¬ fn.body = none := fun e => by rw [e] at h3; cases h3
  simp [callFunc, program, Sem.run, h1, h2', h3']

theorem conK_ok {R : Type} {P : Program} {C : Ctx} {f : Nat} {c : Con} (hc : ConOK P f c) {vs : List AV} {m : Mem} {nx : Nat} {K : KO R} {y : R} (h : conK c vs m nx K = some y) :
    ∃ v m', K v m' nx = some y ∧ (c.res.any Ty.lists = false → m' = m) ∧ ∀ (E : Env) (xs : List Value) (U : Nat → Prop), All2 (RV E) vs xs → MR C E m U →
      Calls P f xs.toArray E.w fun e w' => ∃ z, e = .returned z ∧ Res C E m U nx nx v m' z w' := by
  unfold conK at h
  split at h
  · cases h
  · rename_i x hx
    split at h
    · rename_i hl
      cases hf : c.fn x with
      | none => simp [hf] at h
      | some r =>
        simp [hf] at h
        refine ⟨_, _, h, fun _ => rfl, fun E xs U hv hm => ?_⟩
        have ha := toPureL_ok hm (im := fun k => E.imm k ∨ owns E m k) (fun k hk => .inl hk) c.args vs xs x hc.args hx hv (fun v _ b bt k _ hl hb hk => .inr ⟨b, bt, hl, hb, hk⟩)
        refine Calls.mono (hc.run E.w _ x xs r (fun k hk => hk.elim (hm.immLt k) (fun ho => (hm.own k ho).1)) ha hf) ?_
        rintro e w' ⟨z, he, hb, hr⟩
        obtain ⟨hm', hx'⟩ := hm.grow' hb
        exact ⟨z, he, { E with w := w' }, rfl, hx', hm'.widen fun _ h => .inl h, ⟨fun j hj _ => hb.block j hj, hb.size, fun _ h => .inl h, fun _ h => .inl h⟩, RV_res_nolist _ _ _ hl hr⟩
    · rename_i hl
      split at h
      · rename_i hg
        cases hf : c.fn x with
        | none => simp [hf] at h
        | some r =>
          simp [hf] at h
          refine ⟨_, _, h, (fun hn => by rw [hl] at hn; cases hn), fun E xs U hv hm => ?_⟩
          obtain ⟨im, hk1, hk2, hk3, hk4⟩ := killL_MR vs hm
          have ha := toPureL_ok hm (im := im) (fun k hk => (hk2.imm k hk).1) c.args vs xs x hc.args hx hv (fun v hv b bt k h1 h2 h3 h4 => hk3 hg v hv b bt k h1 h2 h3 h4)
          refine Calls.mono (hc.run E.w im x xs r hk1.immLt ha hf) ?_
          rintro e w' ⟨z, he, hb, hr⟩
          obtain ⟨hm', hx'⟩ := hk1.grow hb (im' := fun k => k < w'.heap.size ∧ (k < E.w.heap.size → im k)) (fun k hk => ⟨Nat.lt_of_lt_of_le (hk1.immLt k hk) hb.size, fun _ => hk⟩) (fun k hk => hk.1) (fun k hk hlt => hk.2 hlt)
          refine ⟨z, he, _, rfl, hk2.trans hx', hm'.widen fun _ h => .inl h, ⟨fun j hj _ => hb.block j hj, hb.size, ?_, ?_⟩, ?_⟩
          rotate_left 2
          · have hx2 : Ext ⟨fun _ => none, w', fun k => k < w'.heap.size ∧ (k < E.w.heap.size → im k)⟩ (⟨E.ρ, w', fun k => k < w'.heap.size ∧ (k < E.w.heap.size → im k)⟩ : Env) := ⟨fun _ _ h => by simp at h, fun k hk => ⟨hk, rfl⟩⟩
            exact RV.ext hx2 hr
          · intro j hj
            exact .inl (killL_owns hj)
          · intro k hk
            by_cases hlt : k < E.w.heap.size
            · exact (hk4 k (hk.2 hlt)).elim .inl (fun h => .inr (.inl h))
            · exact .inr (.inr (by omega))
      · cases h

/-! ### One operation -/
theorem All2.map' {α β γ δ : Type} {S : γ → δ → Prop} {f : α → γ} {g : β → δ} {R : α → β → Prop} (h : ∀ x y, R x y → S (f x) (g y)) : ∀ {l : List α} {r : List β}, All2 R l r → All2 S (l.map f) (r.map g)
  | [], [], _ => trivial
  | _ :: _, _ :: _, hr => ⟨h _ _ hr.1, All2.map' h hr.2⟩
theorem All2.same {α : Type} {R : α → α → Prop} (h : ∀ x, R x x) : ∀ l : List α, All2 R l l
  | [] => trivial
  | x :: l => ⟨h x, All2.same h l⟩
theorem All2.catL {α : Type} {β : Type} {R : α → β → Prop} : ∀ {xs : List α} {ys : List β} {xs' : List α} {ys' : List β}, All2 R xs ys → All2 R xs' ys' → All2 R (Co.catL xs xs') (ys ++ ys')
  | [], [], _, _, _, h' => h'
  | _ :: _, _ :: _, _, _, h, h' => ⟨h.1, All2.catL h.2 h'⟩
theorem capsRel.all {E : Env} : ∀ {caps : List Nat} {vs : List Value}, capsRel E.ρ caps vs → All2 (RV E) (caps.map fun b => .ptr b []) vs
  | [], [], _ => trivial
  | _ :: _, _ :: _, ⟨⟨k, t, h1, h2⟩, h3⟩ => by
    subst h2
    exact ⟨RV.mkPtr h1 rfl (u := t) (o := 0) ⟨rfl, trivial⟩, capsRel.all h3⟩
theorem capNames_ok {E : Env} : ∀ {vs : List AV} {xs : List Value} {l : List Nat}, capNames vs = some l → All2 (RV E) vs xs → capsRel E.ρ l xs
  | [], [], l, h, _ => by simp [capNames] at h; subst h; trivial
  | [], _ :: _, _, _, h => h.elim
  | _ :: _, [], _, _, h => h.elim
  | v :: vs, x :: xs, l, h, hx => by
    cases v <;> try (simp [capNames] at h; done)
    rename_i b p
    cases p with
    | cons s p => simp [capNames] at h
    | nil =>
      simp only [capNames] at h
      cases hc : capNames vs with
      | none => simp [hc] at h
      | some l' =>
        simp [hc] at h; subst h
        obtain ⟨bt, k, u, o, h1, h2, h3, h4⟩ := hx.1.ptr
        cases bt <;> simp [partAt] at h3
        rename_i k' t
        cases h2
        obtain ⟨h5, _⟩ := h3
        simp [tyAt] at h5
        exact ⟨⟨_, _, h1, by rw [h4, ← h5.2]⟩, capNames_ok hc hx.2⟩
theorem RVs_get {E : Env} : ∀ {l : AV} {vs : List Value} {i : Nat} {v : AV}, RVs E l vs → nthAV l i = some v → ∃ z, vs[i]? = some z ∧ RV E v z
  | .cons a l, vs, 0, v, h, hn => by
    obtain ⟨cs, r, rfl, h1, _⟩ := h
    simp [nthAV] at hn; subst hn
    exact ⟨_, by simp, RV.of h1⟩
  | .cons a l, vs, i + 1, v, h, hn => by
    obtain ⟨cs, r, rfl, _, h2⟩ := h
    obtain ⟨z, hz, hr⟩ := RVs_get (i := i) h2 (by simpa [nthAV] using hn)
    exact ⟨z, by simpa using hz, hr⟩
  | .junk, _, i, _, h, _ => h.elim
  | .val _ _, _, i, _, h, _ => h.elim
  | .nils, _, i, _, h, _ => h.elim
  | .eptr _ _, _, i, _, h, _ => h.elim
  | .ptr _ _, _, i, _, h, _ => h.elim
  | .sl _, _, i, _, h, _ => h.elim
  | .asl _ _, _, i, _, h, _ => h.elim
  | .mp _, _, i, _, h, _ => h.elim
  | .fn _ _, _, i, _, h, _ => h.elim
  | .nilp, _, i, _, h, _ => h.elim
  | .tup _, _, i, _, h, _ => h.elim
  | .agv _ _, _, i, _, h, _ => h.elim
  | .nil, _, i, _, _, hn => by cases i <;> simp [nthAV] at hn
theorem run_v' {P : Program} {op : BinOp} {t : TypeId} {ox oy : Operand} {a b r : Value} {w : World} (h : ((do eqGuard op t ox oy a b; binOp op t a b : Sem Value)).run P w = .ok r w) :
    (do eqGuard op t ox oy a b; let z ← binOp op t a b; pure (Next.value z) : Sem Next).run P w = .ok (.value r) w := by
  simp only [Sem.run_bind] at h ⊢
  cases h1 : (eqGuard op t ox oy a b).run P w with
  | ok u w' =>
    simp only [h1, Result.andThen] at h ⊢
    rw [h]
    rfl
  | halt => simp [h1, Result.andThen] at h
theorem run_v {P : Program} {S : Sem Value} {w w' : World} {r : Value} (h : S.run P w = .ok r w') : (do pure (Next.value (← S)) : Sem Next).run P w = .ok (.value r) w' := by simp [h]
theorem run_u {P : Program} {S : Sem Unit} {w w' : World} (h : S.run P w = .ok () w') : (do S; pure Next.skip : Sem Next).run P w = .ok .skip w' := by simp [h]
theorem builtin_opRun {P : Program} {o : Oper} {c : Call} {b : Builtin} (ho : o.op = .call c) (hb : c.callee = .builtin b) (σ : Operand → Value) (w : World) :
    (execOp σ o).run P w = (builtin b c.argTypes o.type (c.args.map fun | .const _ => true | _ => false) (c.args.map σ)).run P w := by
  simp [execOp, ho, resolve, hb, invoke]
  rfl

theorem opF_ok {R : Type} {P : Program} {C : Ctx} {E : EE} (hE : EOK P C E) {ρ : Operand → AV} {o : Oper} {m : Mem} {nx : Nat} {K : KO R} {y : R} (h : opF E ρ o.op m nx K = some y) :
    ∃ v m' nx', nx ≤ nx' ∧ K v m' nx' = some y ∧ (opWr E ρ o.op = false → ∀ b, ¬ (nx ≤ b ∧ b < nx') → m' b = m b) ∧
      ∀ (e : Env) (σ : Operand → Value) (U : Nat → Prop), (∀ x, RV e (ρ x) (σ x)) → MR C e m U → (∀ b, nx ≤ b → b < nx' → ¬ U b) → OpRun P o σ e.w (Res C e m U nx nx' v m') := by
  have pure1 : ∀ (v : AV), K v m nx = some y → (∀ (e : Env) (σ : Operand → Value) (U : Nat → Prop), (∀ x, RV e (ρ x) (σ x)) → MR C e m U → ∃ z, (execOp σ o).run P e.w = .ok (.value z) e.w ∧ RV e v z) →
      ∃ v m' nx', nx ≤ nx' ∧ K v m' nx' = some y ∧ (opWr E ρ o.op = false → ∀ b, ¬ (nx ≤ b ∧ b < nx') → m' b = m b) ∧
      ∀ (e : Env) (σ : Operand → Value) (U : Nat → Prop), (∀ x, RV e (ρ x) (σ x)) → MR C e m U → (∀ b, nx ≤ b → b < nx' → ¬ U b) → OpRun P o σ e.w (Res C e m U nx nx' v m') := by
    intro v hk hr
    refine ⟨v, m, nx, Nat.le_refl _, hk, fun _ _ _ => rfl, fun e σ U hs hm _ => ?_⟩
    obtain ⟨z, hz, hv⟩ := hr e σ U hs hm
    unfold OpRun; rw [hz]
    exact Res.same hm hv
  have alloc1 : ∀ (v : AV) (m' : Mem), K v m' (nx + 1) = some y → (opWr E ρ o.op = false → ∀ b, b ≠ nx → m' b = m b) → (∀ (e : Env) (σ : Operand → Value) (U : Nat → Prop), (∀ x, RV e (ρ x) (σ x)) → MR C e m U → ¬ U nx →
        ∃ z e', (execOp σ o).run P e.w = .ok (.value z) e'.w ∧ Ext e e' ∧ MR C e' m' (fun b => U b ∨ b = nx) ∧ Frm e m e' m' ∧ RV e' v z) →
      ∃ v m' nx', nx ≤ nx' ∧ K v m' nx' = some y ∧ (opWr E ρ o.op = false → ∀ b, ¬ (nx ≤ b ∧ b < nx') → m' b = m b) ∧
      ∀ (e : Env) (σ : Operand → Value) (U : Nat → Prop), (∀ x, RV e (ρ x) (σ x)) → MR C e m U → (∀ b, nx ≤ b → b < nx' → ¬ U b) → OpRun P o σ e.w (Res C e m U nx nx' v m') := by
    intro v m' hk hw hr
    refine ⟨v, m', nx + 1, by omega, hk, fun h b hb => hw h b (by omega), fun e σ U hs hm hu => ?_⟩
    obtain ⟨z, e', hz, h1, h2, h3, h4⟩ := hr e σ U hs hm (hu nx (Nat.le_refl _) (by omega))
    unfold OpRun; rw [hz]
    exact ⟨e', rfl, h1, h2.widen (fun b hb => hb.imp id (fun h => by omega)), h3, h4⟩
  have skip1 : ∀ (m' : Mem), K .junk m' nx = some y → opWr E ρ o.op = true → (∀ (e : Env) (σ : Operand → Value) (U : Nat → Prop), (∀ x, RV e (ρ x) (σ x)) → MR C e m U →
        ∃ e', (execOp σ o).run P e.w = .ok .skip e'.w ∧ Ext e e' ∧ MR C e' m' U ∧ Frm e m e' m') →
      ∃ v m' nx', nx ≤ nx' ∧ K v m' nx' = some y ∧ (opWr E ρ o.op = false → ∀ b, ¬ (nx ≤ b ∧ b < nx') → m' b = m b) ∧
      ∀ (e : Env) (σ : Operand → Value) (U : Nat → Prop), (∀ x, RV e (ρ x) (σ x)) → MR C e m U → (∀ b, nx ≤ b → b < nx' → ¬ U b) → OpRun P o σ e.w (Res C e m U nx nx' v m') := by
    intro m' hk hw hr
    refine ⟨.junk, m', nx, Nat.le_refl _, hk, (fun h => by rw [hw] at h; cases h), fun e σ U hs hm _ => ?_⟩
    obtain ⟨e', hz, h1, h2, h3⟩ := hr e σ U hs hm
    unfold OpRun; rw [hz]
    exact ⟨e', rfl, h1, h2.widen fun _ h => .inl h, h3, trivial⟩
  have hT := hE.tab
  unfold opF at h
  split at h
  · rename_i x ho
    exact pure1 _ h fun e σ U hs hm => ⟨_, by simp [execOp, ho], hs x⟩
  · rename_i x ho
    exact pure1 _ h fun e σ U hs hm => ⟨_, by simp [execOp, ho], hs x⟩
  · rename_i c a b ho
    split at h
    · rename_i t hc
      refine pure1 (bif t then ρ a else ρ b) (by cases t <;> exact h) fun e σ U hs hm => ?_
      have := (hc ▸ hs c : RV e (.val .bool t) (σ c)).bool
      refine ⟨(bif t then σ a else σ b), ?_, by cases t <;> exact hs _⟩
      cases t <;> simp [execOp, ho, this, asBool]
    · cases h
  · rename_i t a ho
    obtain ⟨v, hk, hr⟩ := loadK_ok (P := P) (C := C) (U := fun _ => True) hT h
    refine pure1 v hk fun e σ U hs hm => ?_
    obtain ⟨z, hz, hv⟩ := hr e (σ a) (hs a) (hm.widen fun _ _ => trivial)
    exact ⟨z, by simp [execOp, ho, hz], hv⟩
  · rename_i t x i ho
    obtain ⟨v, hk, hr⟩ := indexK_ok (P := P) hT h
    refine pure1 v hk fun e σ U hs hm => ?_
    obtain ⟨z, hz, hv⟩ := hr e (σ x) (σ i) (hs x) (hs i)
    exact ⟨z, by simp [execOp, ho, hz], hv⟩
  · rename_i t x i ho
    obtain ⟨v, hk, hr⟩ := indexAddrK_ok (P := P) (C := C) (U := fun _ => True) hT h
    refine pure1 v hk fun e σ U hs hm => ?_
    obtain ⟨z, hz, hv⟩ := hr e (σ x) (σ i) (hs x) (hs i) (hm.widen fun _ _ => trivial)
    exact ⟨z, by simp [execOp, ho, hz], hv⟩
  · rename_i t x i ho
    obtain ⟨v, hk, hr⟩ := fieldK_ok (P := P) hT h
    refine pure1 v hk fun e σ U hs hm => ?_
    obtain ⟨z, hz, hv⟩ := hr e (σ x) (hs x)
    exact ⟨z, by simp [execOp, ho, hz], hv⟩
  · rename_i t x i ho
    obtain ⟨v, hk, hr⟩ := fieldAddrK_ok (P := P) (C := C) (U := fun _ => True) hT h
    refine pure1 v hk fun e σ U hs hm => ?_
    obtain ⟨z, hz, hv⟩ := hr e (σ x) (hs x) (hm.widen fun _ _ => trivial)
    exact ⟨z, by simp [execOp, ho, hz], hv⟩
  · rename_i op t x z yt ho
    split at h
    · rename_i te he
      obtain ⟨v, hk, hr⟩ := binK_ok (P := P) hT he h
      refine pure1 v hk fun e σ U hs hm => ?_
      obtain ⟨r, hz, hv⟩ := hr e (σ x) (σ z) x z (hs x) (hs z)
      refine ⟨r, ?_, hv⟩
      simp only [execOp, ho]
      exact run_v hz
    · cases h
  · rename_i op t x ho
    obtain ⟨v, hk, hr⟩ := unK_ok (P := P) h
    refine pure1 v hk fun e σ U hs hm => ?_
    obtain ⟨z, hz, hv⟩ := hr e (σ x) (hs x)
    exact ⟨z, by simp [execOp, ho, hz], hv⟩
  · rename_i s d x ho
    obtain ⟨v, hk, hr⟩ := convK_ok (P := P) hT h
    refine pure1 v hk fun e σ U hs hm => ?_
    obtain ⟨z, hz, hv⟩ := hr e (σ x) (hs x)
    exact ⟨z, by simp [execOp, ho, hz], hv⟩
  · rename_i x i ho
    split at h
    · rename_i l hl
      split at h
      · rename_i v hv
        refine pure1 v h fun e σ U hs hm => ?_
        obtain ⟨vs, hz, hr⟩ := (hl ▸ hs x : RV e (.tup l) (σ x))
        obtain ⟨z, h1, h2⟩ := RVs_get hr hv
        exact ⟨z, by simp [execOp, ho, hz, Instr.extract, h1], h2⟩
      · cases h
    · cases h
  · rename_i t x k ok ho
    obtain ⟨v, hk, hr⟩ := lookupK_ok (P := P) (C := C) (U := fun _ => True) hT h
    refine pure1 v hk fun e σ U hs hm => ?_
    obtain ⟨z, hz, hv⟩ := hr e (σ x) (σ k) (hs x) (hs k) (hm.widen fun _ _ => trivial)
    exact ⟨z, by simp [execOp, ho, hz], hv⟩
  · rename_i t x lo hi ho
    obtain ⟨v, hk, hr⟩ := sliceK_ok (P := P) (C := C) (U := fun _ => True) hT h
    refine pure1 v hk fun e σ U hs hm => ?_
    obtain ⟨z, hz, hv⟩ := hr e (σ x) (lo.map σ) (hi.map σ) (hs x) (fun v hv => by
      cases lo with
      | none => simp at hv
      | some l => simp at hv; subst hv; exact ⟨_, rfl, hs l⟩) (fun hv => by cases lo <;> simp_all) (fun v hv => by
      cases hi with
      | none => simp at hv
      | some l => simp at hv; subst hv; exact ⟨_, rfl, hs l⟩) (fun hv => by cases hi <;> simp_all) (hm.widen fun _ _ => trivial)
    exact ⟨z, by simp [execOp, ho, hz], hv⟩
  · rename_i f first caps ho
    split at h
    · rename_i h0
      split at h
      · rename_i l hl
        refine pure1 _ h fun e σ U hs hm => ?_
        have hall : All2 (RV e) (caps.toList.map ρ) (caps.toList.map σ) := All2.map' (R := fun x y => x = y) (fun x y hxy => hxy ▸ hs x) (All2.same (fun _ => rfl) _)
        have hfe : first = #[] := Array.eq_empty_of_size_eq_zero h0
        refine ⟨.func (.func f) #[] (caps.map σ), by simp [execOp, ho, Instr.makeFunc, hfe], [.func (.func f) #[] (caps.map σ)], rfl, caps.toList.map σ, capNames_ok hl hall, ?_⟩
        rw [← Array.toList_map]
      · cases h
    · cases h
  · rename_i t parts ho
    have hparts : ∀ (e : Env) (σ : Operand → Value), (∀ x, RV e (ρ x) (σ x)) → All2 (fun (p : Nat × AV) (q : Nat × Value) => p.1 = q.1 ∧ RV e p.2 q.2) (parts.toList.map fun x => (x.1, ρ x.2)) (parts.map fun x => (x.1, σ x.2)).toList := by
      intro e σ hs
      rw [Array.toList_map]
      exact All2.map' (R := fun x y => x = y) (fun x y hxy => hxy ▸ ⟨rfl, hs x.2⟩) (All2.same (fun _ => rfl) _)
    split at h
    · rename_i s he
      split at h
      · rename_i v hb
        refine pure1 v h fun e σ U hs hm => ?_
        obtain ⟨z, hz, hv⟩ := buildSt_ok (P := P) hT he hb (hparts e σ hs)
        exact ⟨z, by simp [execOp, ho, hz], hv⟩
      · cases h
    · rename_i n u he
      split at h
      · rename_i a hb
        refine pure1 _ h fun e σ U hs hm => ?_
        obtain ⟨z, hz, hv⟩ := buildArr_ok (P := P) hT he hb (hparts e σ hs)
        exact ⟨z, by simp [execOp, ho, hz], hv⟩
      · cases h
    · cases h
  · -- calls
    rename_i c ho
    have hargs : ∀ (e : Env) (σ : Operand → Value), (∀ x, RV e (ρ x) (σ x)) → All2 (RV e) (c.args.toList.map ρ) (c.args.toList.map σ) := fun e σ hs =>
      All2.map' (R := fun x y => x = y) (fun x y hxy => hxy ▸ hs x) (All2.same (fun _ => rfl) _)
    split at h
    · rename_i b hb
      have hat : c.argTypes = c.argTypes.toList.toArray := rfl
      have har : ∀ σ : Operand → Value, c.args.map σ = (c.args.toList.map σ).toArray := fun σ => by rw [← Array.toList_map]
      unfold builtinK at h
      split at h
      · rename_i t x hts hvs
        obtain ⟨v, hk, hr⟩ := lenK_ok (P := P) (C := C) (U := fun _ => True) (ty := o.type) hT h
        refine pure1 v hk fun e σ U hs hm => ?_
        have ha := hargs e σ hs
        rw [hvs] at ha
        match hxs : c.args.toList.map σ, ha with
        | [z], ⟨hx, _⟩ =>
          obtain ⟨r, hz, hv⟩ := hr e z hx (hm.widen fun _ _ => trivial)
          refine ⟨r, ?_, hv⟩
          rw [builtin_opRun ho hb, har, hxs, hat, hts]
          exact run_v hz
      · rename_i t u s x hts hvs
        obtain ⟨m', hk, hr⟩ := appendK_ok (P := P) (C := C) hT h
        refine alloc1 _ m' hk (fun hw => by rw [ho] at hw; simp [opWr, hb] at hw) fun e σ U hs hm hu => ?_
        have ha := hargs e σ hs
        rw [hvs] at ha
        match hxs : c.args.toList.map σ, ha with
        | [z1, z2], ⟨hx, hx2, _⟩ =>
          obtain ⟨r, e', hz, g⟩ := hr e z1 z2 o.type U hx hx2 hm hu
          refine ⟨r, e', ?_, g⟩
          rw [builtin_opRun ho hb, har, hxs, hat, hts]
          exact run_v hz
      · obtain ⟨v, hk, hr⟩ := minmaxK_ok (P := P) (tys := c.argTypes) (ty := o.type) h
        refine pure1 v hk fun e σ U hs hm => ?_
        obtain ⟨r, hz, hv⟩ := hr e (c.args.toList.map σ) (by simp) (fun i v a h1 h2 => by
          simp at h1 h2
          obtain ⟨x, hx, rfl⟩ := h1
          obtain ⟨x', hx', rfl⟩ := h2
          rw [hx] at hx'; cases hx'
          exact hs x)
        refine ⟨r, ?_, hv⟩
        rw [builtin_opRun ho hb, har]
        exact run_v hz
      · obtain ⟨v, hk, hr⟩ := minmaxK_ok (P := P) (tys := c.argTypes) (ty := o.type) h
        refine pure1 v hk fun e σ U hs hm => ?_
        obtain ⟨r, hz, hv⟩ := hr e (c.args.toList.map σ) (by simp) (fun i v a h1 h2 => by
          simp at h1 h2
          obtain ⟨x, hx, rfl⟩ := h1
          obtain ⟨x', hx', rfl⟩ := h2
          rw [hx] at hx'; cases hx'
          exact hs x)
        refine ⟨r, ?_, hv⟩
        rw [builtin_opRun ho hb, har]
        exact run_v hz
      · cases h
    · rename_i f hf
      split at h
      · rename_i fno caps hfv
        -- the run, as far as the call
        have hrun : ∀ (e : Env) (σ : Operand → Value), FnOK P fno → (∀ x, RV e (ρ x) (σ x)) → ∃ xs : List Value, (execOp σ o).run P e.w = .ok (.enter fno xs.toArray) e.w ∧ All2 (RV e) (catL (c.args.toList.map ρ) (caps.map fun b => .ptr b [])) xs := by
          intro e σ hfn hs
          obtain ⟨cs, hz, vs, hcaps, hcs⟩ := (hfv ▸ hs f : RV e (.fn fno caps) (σ f))
          subst hcs
          have hz : σ f = .func (.func fno) #[] vs.toArray := hz
          refine ⟨c.args.toList.map σ ++ vs, ?_, (hargs e σ hs).catL hcaps.all⟩
          have : c.args.map σ ++ vs.toArray = (c.args.toList.map σ ++ vs).toArray := by
            apply Array.ext'; simp
          simp [execOp, ho, resolve, hf, hz, Deferred.ofValue, invoke, run_callFunc hfn, this]
        unfold callK at h
        split at h
        · rename_i cn hcn
          have hcon := hE.con fno cn hcn
          obtain ⟨v, m', hk, hwr, hr⟩ := conK_ok hcon h
          refine ⟨v, m', nx, Nat.le_refl _, hk, fun hw b _ => ?_, fun e σ U hs hm _ => ?_⟩
          · rw [ho] at hw
            simp [opWr, hf, hfv, hcn] at hw
            rw [hwr (by simpa using hw)]
          · obtain ⟨xs, h1, h2⟩ := hrun e σ hcon.fn hs
            unfold OpRun; rw [h1]
            exact hr e xs U h2 hm
        · rename_i hcn
          obtain ⟨hfn, v, m', nx', hle, hk, hr⟩ := hE.inl _ _ _ _ _ _ _ h
          refine ⟨v, m', nx', hle, hk, fun hw => ?_, fun e σ U hs hm hu => ?_⟩
          · rw [ho] at hw
            simp [opWr, hf, hfv, hcn] at hw
          · obtain ⟨xs, h1, h2⟩ := hrun e σ hfn hs
            unfold OpRun; rw [h1]
            exact hr e xs U h2 hm hu
      · cases h
    · cases h
  · rename_i t ho
    split at h
    · rename_i t' he
      refine alloc1 _ _ h (fun _ b hb => Mem.put_ne _ _ hb) fun e σ U hs hm hu => ?_
      obtain ⟨h1, h2⟩ := zeroV_ok (E := e) t'
      obtain ⟨e', g1, g2, g3, g4, g5⟩ := alloc_ok hm hu (.cells (zcells t').toArray t) (.var e.w.heap.size t') rfl (.var t' (zeroV t')) (fun hx => ⟨h1, e.w.heap.size, (zcells t').toArray, t, by simp [Env.name], by show (e.w.heap.push _)[e.w.heap.size]? = _; rw [Array.getElem?_push, if_pos rfl], by simpa using (zeroV_ok _).2⟩)
      refine ⟨_, e', by rw [g1]; simp [execOp, ho, alloc_run hT he], g3, g4, g5, RV.mkPtr g2 rfl (u := t') (o := 0) ⟨rfl, trivial⟩⟩
    · cases h
  · rename_i t x ho
    split at h
    · rename_i t' he
      split at h
      · rename_i hh
        refine alloc1 _ _ h (fun _ b hb => Mem.put_ne _ _ hb) fun e σ U hs hm hu => ?_
        have hnp := tab_noprod hT he
        obtain ⟨d, hd, hr⟩ := (hs x).cells (by intro e; rw [e] at hh; simp [AV.has] at hh) (by intro l e; rw [e] at hh; simp [AV.has] at hh)
        have hdc : (σ x).cells.toList = d := by
          rw [hd]
          exact hr.cells (by intro e; rw [e] at hh; cases t' <;> simp [AV.has] at hh; exact hnp.2 rfl) (by intro a l e; rw [e] at hh; cases t' <;> simp [AV.has] at hh; exact hnp.1 _ _ rfl)
        obtain ⟨e', g1, g2, g3, g4, g5⟩ := alloc_ok hm hu (.cells (σ x).cells t) (.var e.w.heap.size t') rfl (.var t' (ρ x)) (fun hx => ⟨hh, e.w.heap.size, (σ x).cells, t, by simp [Env.name], by show (e.w.heap.push _)[e.w.heap.size]? = _; rw [Array.getElem?_push, if_pos rfl], by rw [hdc]; exact hr.ext hx⟩)
        refine ⟨_, e', by rw [g1]; simp [execOp, ho, box_run], g3, g4, g5, RV.mkPtr g2 rfl (u := t') (o := 0) ⟨rfl, trivial⟩⟩
      · cases h
    · cases h
  · rename_i t a x ho
    obtain ⟨m', hk, hr⟩ := storeK_ok (P := P) (C := C) hT h
    refine skip1 m' hk (by rw [ho]; rfl) fun e σ U hs hm => ?_
    obtain ⟨e', h1, h2, h3, h4⟩ := hr e (σ a) (σ x) U (hs a) (hs x) hm
    refine ⟨e', ?_, h2, h3, h4⟩
    simp only [execOp, ho]
    exact run_u h1
  · rename_i t ho
    split at h
    · rename_i kt vt he
      refine alloc1 _ _ h (fun _ b hb => Mem.put_ne _ _ hb) fun e σ U hs hm hu => ?_
      obtain ⟨e', g1, g2, g3, g4, g5⟩ := alloc_ok hm hu (.map #[] 0) (.map e.w.heap.size kt vt) rfl (.map kt vt []) (fun hx => ⟨e.w.heap.size, #[], 0, by simp [Env.name], by show (e.w.heap.push _)[e.w.heap.size]? = _; rw [Array.getElem?_push, if_pos rfl], trivial, by simp, by simp⟩)
      refine ⟨.map (some e.w.heap.size), e', by rw [g1]; simp [execOp, ho, Instr.makeMap], g3, g4, g5, _, rfl, e.w.heap.size, kt, vt, g2, rfl⟩
    · cases h
  · rename_i t x k v ho
    obtain ⟨m', hk, hr⟩ := mapUpdateK_ok (P := P) (C := C) hT h
    refine skip1 m' hk (by rw [ho]; rfl) fun e σ U hs hm => ?_
    obtain ⟨w', h1, h2, h3, h4, h5, h6⟩ := hr e (σ x) (σ k) (σ v) U (hs x) (hs k) (hs v) hm
    refine ⟨{ e with w := w' }, ?_, h3, h2, ⟨fun j _ hn => h4 j hn, by show _ ≤ w'.heap.size; omega, fun j hj => .inl (h6 j hj), fun j hj => .inl hj⟩⟩
    simp only [execOp, ho]
    exact run_u h1
  · rename_i t n parts ho
    split at h
    · rename_i el he
      split at h
      · rename_i l m' hn hnb hb
        refine alloc1 _ _ h (fun hw => by rw [ho] at hw; simp [opWr] at hw) fun e σ U hs hm hu => ?_
        simp at hn
        have hparts : All2 (fun (p : Nat × AV) (q : Nat × Value) => p.1 = q.1 ∧ RV e p.2 q.2) (parts.toList.map fun x => (x.1, ρ x.2)) (parts.map fun x => (x.1, σ x.2)).toList := by
          rw [Array.toList_map]
          exact All2.map' (R := fun x y => x = y) (fun x y hxy => hxy ▸ ⟨rfl, hs x.2⟩) (All2.same (fun _ => rfl) _)
        obtain ⟨z, e', h1, h2, h3, h4, h5⟩ := buildSlice_ok (P := P) hT he hn.1 hn.2 (Nat.le_of_ble_eq_true hnb) hb hm hu hparts
        refine ⟨z, e', ?_, h2, h3, h4, h5⟩
        simp only [execOp, ho]
        exact run_v h1
      · cases h
    · cases h
  · cases h
end Go.Co
