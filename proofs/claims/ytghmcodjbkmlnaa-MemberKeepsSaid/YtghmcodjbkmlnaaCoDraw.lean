/-
  Regions whose operations come in any order that their edges allow: each order comes to the same state.
  Own text, for the claims about coterie.
-/
import Derived.Test.YtghmcodjbkmlnaaCoFit
namespace Go.Co
open Go.RowKit

/-! ### Parts of memory -/
theorem onlyM_or (l : List Nat) (m : Mem) (b : Nat) : (memB l b = true ∧ onlyM l m b = m b) ∨ (memB l b = false ∧ onlyM l m b = .none) := by
  unfold onlyM; cases h : memB l b <;> simp
theorem over_in {l : List Nat} {m' m : Mem} {b : Nat} (h : memB l b = true) : over l m' m b = m' b := by simp [over, h]
theorem over_out {l : List Nat} {m' m : Mem} {b : Nat} (h : memB l b = false) : over l m' m b = m b := by simp [over, h]
theorem owns_sub {E : Env} {m m2 : Mem} (h : ∀ b, m2 b = m b ∨ m2 b = .none) {j : Nat} (ho : owns E m2 j) : owns E m j := by
  obtain ⟨b, bt, hl, h1, h2⟩ := ho
  rcases h b with hb | hb
  · exact ⟨b, bt, hb ▸ hl, h1, h2⟩
  · rw [hb] at hl; exact hl.elim
theorem owns_only {E : Env} {l : List Nat} {m : Mem} {j : Nat} (ho : owns E (onlyM l m) j) : ∃ b bt, memB l b = true ∧ live (m b) ∧ E.ρ b = some bt ∧ bt.base = some j := by
  obtain ⟨b, bt, hl, h1, h2⟩ := ho
  rcases onlyM_or l m b with ⟨hb, he⟩ | ⟨_, he⟩
  · exact ⟨b, bt, hb, he ▸ hl, h1, h2⟩
  · rw [he] at hl; exact hl.elim
theorem MR.drop {C : Ctx} {E : Env} {m m2 : Mem} {U : Nat → Prop} (h : MR C E m U) (hs : ∀ b, m2 b = m b ∨ m2 b = .none) : MR C E m2 U := by
  have hl : ∀ b, live (m2 b) → live (m b) := fun b hb => by
    rcases hs b with h | h
    · exact h ▸ hb
    · rw [h] at hb; exact hb.elim
  refine ⟨h.below, fun b => ?_, fun k hk => h.own k (owns_sub hs hk), fun b b' b1 b2 k h1 h2 => h.inj b b' b1 b2 k (hl b h1) (hl b' h2), h.immLt, h.immI, h.nx⟩
  rcases hs b with hb | hb
  · rw [hb]; exact h.blocks b
  · rw [hb]; trivial
theorem only_sub (l : List Nat) (m : Mem) (b : Nat) : onlyM l m b = m b ∨ onlyM l m b = .none := (onlyM_or l m b).imp (·.2) (·.2)
/-- What an operation has done to a part, it has done to the whole. -/
theorem MR.part {C : Ctx} {e e' : Env} {m m' : Mem} {U U' : Nat → Prop} {R W : List Nat} (h : MR C e m U) (hx : Ext e e') (h' : MR C e' (over W m' (onlyM R m)) U') (hf : Frm e (onlyM R m) e' (over W m' (onlyM R m))) :
    MR C e' (over W m' m) U' ∧ Frm e m e' (over W m' m) := by
  have hin : ∀ b, memB W b = true ∨ memB R b = true → over W m' m b = over W m' (onlyM R m) b := by
    intro b hb
    cases hw : memB W b with
    | true => rw [over_in hw, over_in hw]
    | false =>
      rw [over_out hw, over_out hw]
      rcases hb with hb | hb
      · rw [hw] at hb; cases hb
      · simp [onlyM, hb]
  have hout : ∀ b, memB W b = false → over W m' m b = m b := fun b hw => over_out hw
  have hcase : ∀ b, (memB W b = true ∨ memB R b = true) ∨ (memB W b = false ∧ memB R b = false) := fun b => by
    cases memB W b <;> cases memB R b <;> simp
  have hnot : ∀ b bt k, memB R b = false → live (m b) → e.ρ b = some bt → bt.base = some k → ¬ owns e (onlyM R m) k := by
    rintro b bt k hb hl h1 h2 ho
    obtain ⟨b2, bt2, g1, g2, g3, g4⟩ := owns_only ho
    have := h.inj b b2 bt bt2 k hl g2 h1 g3 h2 g4
    subst this
    rw [hb] at g1; cases g1
  have hsame : ∀ b bt, live (m b) → e'.ρ b = some bt → e.ρ b = some bt := by
    intro b bt hl hb
    obtain ⟨bt0, h0⟩ := (h.blocks b).some hl
    have := hx.ρ b bt0 h0
    rw [hb] at this; cases this
    exact h0
  have hown1 : ∀ j, owns e' (over W m' m) j → owns e' (over W m' (onlyM R m)) j ∨ (owns e m j ∧ ¬ owns e (onlyM R m) j) := by
    rintro j ⟨b, bt, hl, h1, h2⟩
    rcases hcase b with hb | ⟨hw, hb⟩
    · rw [hin b hb] at hl; exact .inl ⟨b, bt, hl, h1, h2⟩
    · rw [hout b hw] at hl
      have h1 := hsame b bt hl h1
      exact .inr ⟨⟨b, bt, hl, h1, h2⟩, hnot b bt j hb hl h1 h2⟩
  refine ⟨⟨h'.below, ?_, ?_, ?_, h'.immLt, h'.immI, h'.nx⟩, ?_, hf.size, ?_, ?_⟩
  · intro b
    rcases hcase b with hb | ⟨hw, hb⟩
    · rw [hin b hb]; exact h'.blocks b
    · rw [hout b hw]
      refine (h.blocks b).frame hx fun bt k h1 h2 hl => ?_
      exact hf.heap k (h.own k ⟨b, bt, hl, h1, h2⟩).1 (hnot b bt k hb hl h1 h2)
  · intro k hk
    rcases hown1 k hk with ho | ⟨ho, hn⟩
    · exact h'.own k ho
    · obtain ⟨o1, o2, o3⟩ := h.own k ho
      refine ⟨Nat.lt_of_lt_of_le o1 hf.size, o2, fun hi => ?_⟩
      rcases hf.imm k hi with hi | hi | hi
      · exact o3 hi
      · exact hn hi
      · omega
  · intro b b2 bt bt2 k hl hl2 h1 h2 h3 h4
    have mixed : ∀ b b2 bt bt2, (memB W b = true ∨ memB R b = true) → (memB W b2 = false ∧ memB R b2 = false) → live (over W m' m b) → live (over W m' m b2) → e'.ρ b = some bt → e'.ρ b2 = some bt2 → bt.base = some k → bt2.base = some k → False := by
      intro b b2 bt bt2 hb hb2 hl hl2 h1 h2 h3 h4
      rw [hin b hb] at hl
      rw [hout b2 hb2.1] at hl2
      have h2 := hsame b2 bt2 hl2 h2
      rcases hf.own k ⟨b, bt, hl, h1, h3⟩ with ho | ho
      · exact hnot b2 bt2 k hb2.2 hl2 h2 h4 ho
      · have := (h.own k ⟨b2, bt2, hl2, h2, h4⟩).1; omega
    rcases hcase b with hb | hb
    · rcases hcase b2 with hb2 | hb2
      · rw [hin b hb] at hl
        rw [hin b2 hb2] at hl2
        exact h'.inj b b2 bt bt2 k hl hl2 h1 h2 h3 h4
      · exact (mixed b b2 bt bt2 hb hb2 hl hl2 h1 h2 h3 h4).elim
    · rcases hcase b2 with hb2 | hb2
      · exact (mixed b2 b bt2 bt hb2 hb hl2 hl h2 h1 h4 h3).elim
      · rw [hout b hb.1] at hl
        rw [hout b2 hb2.1] at hl2
        exact h.inj b b2 bt bt2 k hl hl2 (hsame b bt hl h1) (hsame b2 bt2 hl2 h2) h3 h4
  · intro j hj hn
    exact hf.heap j hj fun ho => hn (owns_sub (only_sub R m) ho)
  · intro j hj
    rcases hown1 j hj with ho | ⟨ho, _⟩
    · exact (hf.own j ho).imp (owns_sub (only_sub R m)) id
    · exact .inl ho
  · intro j hj
    rcases hf.imm j hj with hi | hi | hi
    · exact .inl hi
    · exact .inr (.inl (owns_sub (only_sub R m) hi))
    · exact .inr (.inr hi)

/-! ### What the operations have done, as many as have been -/
structure Fact where
  fp : FP
  v : AV
  m : Mem
  nx : Nat
  nx' : Nat
def wS (x : Fact) (t : Nat) : Bool := match x.fp.dst with | some d => Nat.beq t d | none => false
def wM (x : Fact) (b : Nat) : Bool := memB x.fp.W b
def FD {α : Type} (D : Nat → Bool) (w : Fact → Nat → Bool) (val : Fact → Nat → α) : Nat → List Fact → (Nat → α) → Nat → α
  | _, [], f => f
  | i, x :: r, f => FD D w val (i + 1) r fun t => if D i && w x t then val x t else f t
theorem FD_congr {α : Type} {D D' : Nat → Bool} {w : Fact → Nat → Bool} {val : Fact → Nat → α} {t : Nat} : ∀ (fs : List Fact) (i : Nat) (f f' : Nat → α), (∀ j x, fs[j]? = some x → w x t = true → D (i + j) = D' (i + j)) → f t = f' t → FD D w val i fs f t = FD D' w val i fs f' t
  | [], _, _, _, _, h => h
  | x :: r, i, f, f', hj, h => by
    refine FD_congr r (i + 1) _ _ (fun j y hy hw => by have := hj (j + 1) y (by simpa using hy) hw; rwa [show i + (j + 1) = i + 1 + j by omega] at this) ?_
    cases hw : w x t with
    | false => simp [h]
    | true =>
      have := hj 0 x (by simp) hw
      simp only [Nat.add_zero] at this
      simp [this, h]
theorem FD_none {α : Type} {D : Nat → Bool} {w : Fact → Nat → Bool} {val : Fact → Nat → α} {t : Nat} : ∀ (fs : List Fact) (i : Nat) (f : Nat → α), (∀ j x, fs[j]? = some x → w x t = true → D (i + j) = false) → FD D w val i fs f t = f t
  | [], _, _, _ => rfl
  | x :: r, i, f, hj => by
    rw [FD, FD_none r (i + 1) _ (fun j y hy hw => by have := hj (j + 1) y (by simpa using hy) hw; rwa [show i + (j + 1) = i + 1 + j by omega] at this)]
    cases hw : w x t with
    | false => simp
    | true =>
      have := hj 0 x (by simp) hw
      simp only [Nat.add_zero] at this
      simp [this]
theorem FD_last {α : Type} {D : Nat → Bool} {w : Fact → Nat → Bool} {val : Fact → Nat → α} {t : Nat} {x : Fact} (hw : w x t = true) : ∀ (fs : List Fact) (i j : Nat) (f : Nat → α), fs[j]? = some x → D (i + j) = true → (∀ j' y, j < j' → fs[j']? = some y → w y t = true → D (i + j') = false) → FD D w val i fs f t = val x t
  | [], _, j, _, h, _, _ => by simp at h
  | y :: r, i, 0, f, h, hd, hj => by
    simp at h; subst h
    rw [FD, FD_none r (i + 1) _ (fun j z hz hwz => by have := hj (j + 1) z (by omega) (by simpa using hz) hwz; rwa [show i + (j + 1) = i + 1 + j by omega] at this)]
    simp only [Nat.add_zero] at hd
    simp [hd, hw]
  | y :: r, i, j + 1, f, h, hd, hj => by
    rw [FD]
    refine FD_last hw r (i + 1) j _ (by simpa using h) (by rwa [show i + 1 + j = i + (j + 1) by omega]) fun j' z hlt hz hwz => ?_
    have := hj (j' + 1) z (by omega) (by simpa using hz) hwz
    rwa [show i + (j' + 1) = i + 1 + j' by omega] at this
theorem memB_iff {l : List Nat} {n : Nat} : memB l n = true ↔ n ∈ l := by
  induction l with
  | nil => simp [memB_nil]
  | cons a l ih =>
    simp only [memB_cons, Bool.or_eq_true, ih, List.mem_cons]
    constructor
    · rintro (h | h)
      · exact .inl (Nat.eq_of_beq_eq_true h)
      · exact .inr h
    · rintro (rfl | h)
      · exact .inl (Nat.beq_refl _)
      · exact .inr h
theorem memB_catL {l r : List Nat} {n : Nat} : memB (catL l r) n = (memB l n || memB r n) := by
  induction l with
  | nil => simp [catL, memB_nil]
  | cons a l ih => simp [catL, memB_cons, ih, Bool.or_assoc]
theorem memB_fromTo {a k n : Nat} : memB (fromTo a k) n = true ↔ a ≤ n ∧ n < a + k := by
  induction k generalizing a with
  | zero => simp [fromTo, memB_nil]
  | succ k ih =>
    simp only [fromTo, memB_cons, Bool.or_eq_true, ih]
    constructor
    · rintro (h | h)
      · have := Nat.eq_of_beq_eq_true h; omega
      · omega
    · intro h
      by_cases hn : n = a
      · subst hn; exact .inl (Nat.beq_refl _)
      · exact .inr (by omega)

/-- A run of an operation if its guard wants it. -/
def GRun (P : Program) (ops : Array Oper) (o : Oper) (a : Act) (w : World) (R : Value → World → Prop) : Prop :=
  if Region.wanted o (yielded ops a.tmps) then OpRun P o a.eval w R else R undef w
structure FactOK (P : Program) (C : Ctx) (n : Nat) (ops : Array Oper) (o : Oper) (x : Fact) (s : AS) : Prop where
  nx : x.nx = s.nx
  le : x.nx ≤ x.nx'
  dst : x.fp.dst = o.dst
  lt : (match o.dst with | some d => Nat.blt d n | none => true) = true
  wr : ∀ b, memB x.fp.W b = true → memB x.fp.R b = true ∨ (x.nx ≤ b ∧ b < x.nx')
  new : ∀ b, x.nx ≤ b → b < x.nx' → memB x.fp.W b = true
  run : ∀ (e : Env) (a : Act) (U : Nat → Prop), (∀ t, memB x.fp.rs t = true → RV e (s.slots t) (a.tmps.getD t undef)) → MR C e (onlyM x.fp.R s.mem) U → (∀ b, x.nx ≤ b → b < x.nx' → ¬ U b) →
    GRun P ops o a e.w (Res C e (onlyM x.fp.R s.mem) U x.nx x.nx' x.v (over x.fp.W x.m (onlyM x.fp.R s.mem)))
def Fact.upon (x : Fact) (s : AS) : AS := ⟨putD s.slots x.fp.dst x.v, over x.fp.W x.m s.mem, x.nx'⟩
def Chain (P : Program) (C : Ctx) (n : Nat) (ops : Array Oper) : List Oper → AS → List Fact → AS → Prop
  | [], s, [], s' => s' = s
  | o :: r, s, x :: fs, s' => FactOK P C n ops o x s ∧ Chain P C n ops r (x.upon s) fs s'
  | _, _, _, _ => False

section
variable {P : Program} {C : Ctx} {E : EE} (hE : EOK P C E) {n : Nat}
include hE
theorem opD_ok {ops : Array Oper} {o : Oper} {rs : List Nat} (hdst : (match o.dst with | some d => Nat.blt d n | none => true) = true) {R : Type} {s : AS} {K : AS → FP → Option R} {y : R} (h : opD E rs o s K = some y) :
    ∃ x : Fact, x.fp.rs = rs ∧ K (x.upon s) x.fp = some y ∧ ((∀ (e : Env) (a : Act), (∀ t, memB rs t = true → RV e (s.slots t) (a.tmps.getD t undef)) → Region.wanted o (yielded ops a.tmps) = true) → FactOK P C n ops o x s) := by
  unfold opD at h
  obtain ⟨v, m', nx', hle, hk, hwr, hr⟩ := opF_ok hE (o := o) h
  generalize hF : footR (opv (only rs s.slots)) s.mem o.op = F at *
  refine ⟨⟨⟨rs, o.dst, F, catL (fromTo s.nx (nx' - s.nx)) (match opWr E (opv (only rs s.slots)) o.op with | true => F | false => [])⟩, v, m', s.nx, nx'⟩, rfl, hk, fun hw => ⟨rfl, hle, rfl, hdst, ?_, ?_, ?_⟩⟩
  · intro b hb
    simp only [memB_catL, Bool.or_eq_true] at hb
    rcases hb with hb | hb
    · have := memB_fromTo.1 hb
      have h2 : b < nx' := by omega
      exact .inr ⟨this.1, h2⟩
    · split at hb
      · exact .inl hb
      · simp [memB_nil] at hb
  · intro b h1 h2
    simp only [memB_catL, Bool.or_eq_true]
    have h1 : s.nx ≤ b := h1
    have h2 : b < nx' := h2
    exact .inl (memB_fromTo.2 ⟨h1, by omega⟩)
  · intro e a U hs hm hu
    unfold GRun
    rw [hw e a hs, if_pos rfl]
    have hσ : ∀ x, RV e (opv (only rs s.slots) x) (a.eval x) := by
      intro x
      refine opv_ok (fun i => ?_) x
      unfold only
      cases hi : memB rs i with
      | true => exact hs i hi
      | false => trivial
    refine OpRun.mono (hr e a.eval U hσ hm hu) ?_
    rintro z w' ⟨e', hw', hx, hm', hf, hv⟩
    have hsub : ∀ b, over (catL (fromTo s.nx (nx' - s.nx)) (match opWr E (opv (only rs s.slots)) o.op with | true => F | false => [])) m' (onlyM F s.mem) b = m' b ∨
        over (catL (fromTo s.nx (nx' - s.nx)) (match opWr E (opv (only rs s.slots)) o.op with | true => F | false => [])) m' (onlyM F s.mem) b = .none := by
      intro b
      cases hb : memB (catL (fromTo s.nx (nx' - s.nx)) (match opWr E (opv (only rs s.slots)) o.op with | true => F | false => [])) b with
      | true => rw [over_in hb]; exact .inl rfl
      | false =>
        rw [over_out hb]
        rcases onlyM_or F s.mem b with ⟨hf, he⟩ | ⟨hf, he⟩
        · left
          simp only [memB_catL, Bool.or_eq_false_iff] at hb
          cases hwb : opWr E (opv (only rs s.slots)) o.op with
          | true => rw [hwb] at hb; simp only at hb; rw [hf] at hb; exact absurd hb.2 (by simp)
          | false =>
            refine (hwr hwb b fun hlt => ?_).symm
            have := memB_fromTo.2 (⟨hlt.1, by omega⟩ : s.nx ≤ b ∧ b < s.nx + (nx' - s.nx))
            rw [this] at hb; exact absurd hb.1 (by simp)
        · exact .inr he
    exact ⟨e', hw', hx, hm'.drop hsub, ⟨hf.heap, hf.size, fun j hj => hf.own j (owns_sub hsub hj), hf.imm⟩, hv⟩
omit hE in
theorem skipD_ok {ops : Array Oper} {o : Oper} {d : Nat} (hdst : (match o.dst with | some d => Nat.blt d n | none => true) = true) (s : AS) (hw : ∀ (e : Env) (a : Act), (∀ t, memB [d] t = true → RV e (s.slots t) (a.tmps.getD t undef)) → Region.wanted o (yielded ops a.tmps) = false) :
    FactOK P C n ops o ⟨⟨[d], o.dst, [], []⟩, .nil, fun _ => .none, s.nx, s.nx⟩ s := by
  refine ⟨rfl, Nat.le_refl _, rfl, hdst, (fun b h => by simp [memB_nil] at h), (fun b h1 h2 => absurd (Nat.lt_of_lt_of_le h2 h1) (Nat.lt_irrefl _)), fun e a U hs hm _ => ?_⟩
  unfold GRun
  rw [hw e a hs]
  simp only [Bool.false_eq_true, if_false]
  refine ⟨e, rfl, Ext.refl _, ?_, ?_, RV.skip e⟩
  · have : over [] (fun _ => AB.none) (onlyM [] s.mem) = onlyM [] s.mem := by funext b; simp [over, memB_nil]
    rw [this]; exact hm.widen fun _ h => .inl h
  · have : over [] (fun _ => AB.none) (onlyM [] s.mem) = onlyM [] s.mem := by funext b; simp [over, memB_nil]
    rw [this]; exact Frm.refl _ _
omit hE in
theorem skip_upon (o : Oper) (d : Nat) (s : AS) : Fact.upon ⟨⟨[d], o.dst, [], []⟩, .nil, fun _ => .none, s.nx, s.nx⟩ s = ⟨putD s.slots o.dst .nil, s.mem, s.nx⟩ := by
  have : over [] (fun _ => AB.none) s.mem = s.mem := by funext b; simp [over, memB_nil]
  unfold Fact.upon; rw [this]

theorem evDraw_ok {ops : Array Oper} {R : Type} {y : R} {K : AS → List FP → Option R} : ∀ (rest : List Oper) (s : AS) (fs : List FP), evDraw E n ops.toList rest s fs K = some y →
    ∃ (xs : List Fact) (s' : AS), Chain P C n ops rest s xs s' ∧ K s' (fs ++ xs.map (·.fp)) = some y := by
  intro rest
  induction rest with
  | nil => intro s fs h; exact ⟨[], s, rfl, by simpa [evDraw] using h⟩
  | cons o rest ih =>
    intro s fs h
    have snoc_eq : ∀ (l : List FP) (x : FP), l.snoc x = l ++ [x] := fun l x => by
      induction l with
      | nil => rfl
      | cons a l ih => simp [List.snoc, ih]
    simp only [evDraw] at h
    split at h
    · cases h
    · rename_i hd
      have run1 : ∀ rs : List Nat, (∀ (e : Env) (a : Act), (∀ t, memB rs t = true → RV e (s.slots t) (a.tmps.getD t undef)) → Region.wanted o (yielded ops a.tmps) = true) →
          opD E rs o s (fun s f => evDraw E n ops.toList rest s (fs.snoc f) K) = some y → ∃ (xs : List Fact) (s' : AS), Chain P C n ops (o :: rest) s xs s' ∧ K s' (fs ++ xs.map (·.fp)) = some y := by
        intro rs hw h
        obtain ⟨x, _, hk, hx⟩ := opD_ok hE (n := n) (ops := ops) hd h
        obtain ⟨xs, s', h1, h2⟩ := ih _ _ hk
        refine ⟨x :: xs, s', ⟨hx hw, h1⟩, ?_⟩
        rw [snoc_eq] at h2; simpa using h2
      have skip1 : ∀ d : Nat, (∀ (e : Env) (a : Act), (∀ t, memB [d] t = true → RV e (s.slots t) (a.tmps.getD t undef)) → Region.wanted o (yielded ops a.tmps) = false) →
          evDraw E n ops.toList rest ⟨putD s.slots o.dst .nil, s.mem, s.nx⟩ (fs.snoc ⟨[d], o.dst, [], []⟩) K = some y → ∃ (xs : List Fact) (s' : AS), Chain P C n ops (o :: rest) s xs s' ∧ K s' (fs ++ xs.map (·.fp)) = some y := by
        intro d hw h
        obtain ⟨xs, s', h1, h2⟩ := ih _ _ h
        refine ⟨_ :: xs, s', ⟨skipD_ok hd s hw, ?_⟩, ?_⟩
        · rw [skip_upon]; exact h1
        · rw [snoc_eq] at h2; simpa using h2
      split at h
      · rename_i hg
        exact run1 _ (fun e a _ => by simp [Region.wanted, hg]) h
      · rename_i j want hg
        split at h
        · cases h
        · rename_i d hdst
          split at h
          · rename_i b hb
            have hy : ∀ (rs : List Nat), memB rs d = true → ∀ (e : Env) (a : Act), (∀ t, memB rs t = true → RV e (s.slots t) (a.tmps.getD t undef)) → yielded ops a.tmps j = some b := fun rs hrs e a hs => yielded_of hdst (by
              have := hs d hrs
              rw [hb] at this
              exact this.bool)
            have hin : memB (d :: tmpsOf (opndL o.op)) d = true := by simp [memB_cons]
            have hin2 : memB [d] d = true := by simp [memB_nil, memB_cons]
            split at h
            · cases b with
              | true =>
                rw [know_eq hb] at h
                exact run1 _ (fun e a hs => by simp [Region.wanted, hg, hy _ hin e a hs]) h
              | false =>
                rw [know_eq hb] at h
                exact skip1 d (fun e a hs => by simp [Region.wanted, hg, hy _ hin2 e a hs]) h
            · cases b with
              | true =>
                rw [know_eq hb] at h
                exact skip1 d (fun e a hs => by simp [Region.wanted, hg, hy _ hin2 e a hs]) h
              | false =>
                rw [know_eq hb] at h
                exact run1 _ (fun e a hs => by simp [Region.wanted, hg, hy _ hin e a hs]) h
          · rename_i hb
            have hin2 : memB [d] d = true := by simp [memB_nil, memB_cons]
            exact skip1 d (fun e a hs => by
              have := hs d hin2
              rw [hb] at this
              simp [Region.wanted, hg, yielded_nil hdst this.nil]) h
          · cases h
end
end Go.Co
