/-
  Each order that the edges allow comes to the same state.
  Own text, for the claims about coterie.
-/
import Derived.Test.YtghmcodjbkmlnaaCoDraw
namespace Go.Co
open Go.RowKit

def vS (x : Fact) (_ : Nat) : AV := x.v
def vM (x : Fact) (b : Nat) : AB := x.m b
theorem putD_eq (f : Nat → AV) (x : Fact) : putD f x.fp.dst x.v = fun t => if true && wS x t then vS x t else f t := by
  funext t
  unfold putD wS vS
  cases x.fp.dst with
  | none => simp
  | some d =>
    simp only [Bool.true_and]
    split
    · rename_i h; simp [h]
    · rename_i h; simp [h]
theorem over_eq (m : Mem) (x : Fact) : over x.fp.W x.m m = fun b => if true && wM x b then vM x b else m b := by
  funext b
  unfold over wM vM
  split
  · rename_i h; simp [h]
  · rename_i h; simp [h]
section
variable {P : Program} {C : Ctx} {n : Nat} {ops : Array Oper}
/-- The state before the i-th operation, and behind the last. -/
theorem chain_at : ∀ (rest : List Oper) (s : AS) (fs : List Fact) (s' : AS), Chain P C n ops rest s fs s' → fs.length = rest.length ∧
    (∀ i x, fs[i]? = some x → ∃ o si, rest[i]? = some o ∧ FactOK P C n ops o x si ∧ (∀ t, si.slots t = FD (fun j => decide (j < i)) wS vS 0 fs s.slots t) ∧ (∀ b, si.mem b = FD (fun j => decide (j < i)) wM vM 0 fs s.mem b) ∧ s.nx ≤ si.nx ∧
      (∀ j z, j < i → fs[j]? = some z → z.nx' ≤ x.nx)) ∧
    (∀ t, s'.slots t = FD (fun _ => true) wS vS 0 fs s.slots t) ∧ (∀ b, s'.mem b = FD (fun _ => true) wM vM 0 fs s.mem b) ∧ s.nx ≤ s'.nx ∧ (∀ (i : Nat) (x : Fact), fs[i]? = some x → x.nx' ≤ s'.nx) := by
  have shift : ∀ {α : Type} (D : Nat → Bool) (w : Fact → Nat → Bool) (val : Fact → Nat → α) (fs : List Fact) (i : Nat) (f : Nat → α) (t : Nat), FD D w val (i + 1) fs f t = FD (fun j => D (j + 1)) w val i fs f t := by
    intro α D w val fs
    induction fs with
    | nil => intro i f t; rfl
    | cons x r ih => intro i f t; simp only [FD]; rw [ih]
  intro rest
  induction rest with
  | nil =>
    intro s fs s' h
    cases fs with
    | nil => cases h; exact ⟨rfl, fun i x h => by simp at h, fun _ => rfl, fun _ => rfl, Nat.le_refl _, fun i x h => by simp at h⟩
    | cons x fs => exact h.elim
  | cons o rest ih =>
    intro s fs s' h
    cases fs with
    | nil => exact h.elim
    | cons x fs =>
      obtain ⟨hx, h⟩ := h
      obtain ⟨h1, h2, h3, h4, h5, h6⟩ := ih _ fs s' h
      have hup : (x.upon s).nx = x.nx' := rfl
      rw [hup] at h5
      have hxn := hx.nx
      have hxl := hx.le
      refine ⟨by simp [h1], ?_, ?_, ?_, by omega, ?_⟩
      · intro i z hz
        cases i with
        | zero =>
          simp at hz; subst hz
          refine ⟨o, s, by simp, hx, fun t => ?_, fun b => ?_, Nat.le_refl _, fun j z hj => by omega⟩
          · rw [FD_none]; intro j y _ _; simp
          · rw [FD_none]; intro j y _ _; simp
        | succ i =>
          obtain ⟨o', si, g1, g2, g3, g4, g5, g6⟩ := h2 i z (by simpa using hz)
          refine ⟨o', si, by simpa using g1, g2, fun t => ?_, fun b => ?_, by rw [hup] at g5; omega, fun j y hj hy => ?_⟩
          · rw [g3 t, FD, shift]
            have : (x.upon s).slots = putD s.slots x.fp.dst x.v := rfl
            rw [this, putD_eq]
            simp
          · rw [g4 b, FD, shift]
            have : (x.upon s).mem = over x.fp.W x.m s.mem := rfl
            rw [this, over_eq]
            simp
          · cases j with
            | zero =>
              simp at hy; subst hy
              rw [g2.nx]; rw [hup] at g5; exact g5
            | succ j => exact g6 j y (by omega) (by simpa using hy)
      · intro t
        rw [h3 t, FD, shift]
        have : (x.upon s).slots = putD s.slots x.fp.dst x.v := rfl
        rw [this, putD_eq]
      · intro b
        rw [h4 b, FD, shift]
        have : (x.upon s).mem = over x.fp.W x.m s.mem := rfl
        rw [this, over_eq]
      · intro i z hz
        cases i with
        | zero => simp at hz; subst hz; exact h5
        | succ i => exact h6 i z (by simpa using hz)

/-! ### Edges -/
theorem edgesAt_get {j : Nat} {o : Oper} (h : ops[j]? = some o) : edgesAt ops.toList j = onOf o.after.toList := by
  have key : ∀ (l : List Oper) (j : Nat), l[j]? = some o → edgesAt l j = onOf o.after.toList := by
    intro l
    induction l with
    | nil => intro j h; simp at h
    | cons p l ih =>
      intro j h
      cases j with
      | zero => simp at h; subst h; rfl
      | succ j => simp only [edgesAt]; exact ih j (by simpa using h)
  exact key _ _ (by simpa using h)
theorem edgesAt_none {j : Nat} (h : ops[j]? = none) : edgesAt ops.toList j = [] := by
  have key : ∀ (l : List Oper) (j : Nat), l[j]? = none → edgesAt l j = [] := by
    intro l
    induction l with
    | nil => intro j _; cases j <;> rfl
    | cons p l ih =>
      intro j h
      cases j with
      | zero => simp at h
      | succ j => simp only [edgesAt]; exact ih j (by simpa using h)
  exact key _ _ (by simpa using h)
theorem mem_onOf {es : List Edge} {k : Nat} : k ∈ onOf es ↔ ∃ e ∈ es, Region.binds .any e = true ∧ e.on = k := by
  induction es with
  | nil => simp [onOf]
  | cons e es ih =>
    simp only [onOf]
    cases hb : Region.binds .any e with
    | true => simp only [List.mem_cons, ih]; constructor
              · rintro (h | ⟨e', h1, h2, h3⟩)
                · exact ⟨e, .inl rfl, hb, h.symm⟩
                · exact ⟨e', .inr h1, h2, h3⟩
              · rintro ⟨e', (rfl | h1), h2, h3⟩
                · exact .inl h3.symm
                · exact .inr ⟨e', h1, h2, h3⟩
    | false =>
      simp only [ih]; constructor
      · rintro ⟨e', h1, h2, h3⟩; exact ⟨e', by simp [h1], h2, h3⟩
      · rintro ⟨e', h1, h2, h3⟩
        rcases List.mem_cons.1 h1 with rfl | h1
        · rw [hb] at h2; cases h2
        · exact ⟨e', h1, h2, h3⟩
/-- What comes before an operation that has been done or may be now, has been done. -/
theorem befB_D {D : Nat → Bool} (hD : ∀ j, D j = true → ∀ e ∈ edgesAt ops.toList j, D e = true) : ∀ (k i j : Nat), befB ops.toList k i j = true → (∀ e ∈ edgesAt ops.toList j, D e = true) → D i = true
  | 0, i, j, h, _ => by simp [befB] at h
  | k + 1, i, j, h, hj => by
    simp only [befB, Bool.or_eq_true, List.any_eq_true, Bool.and_eq_true] at h
    rcases h with h | ⟨e, he, _, h⟩
    · exact hj i (memB_iff.1 h)
    · exact befB_D hD k i e h (hD e (hj e he))
theorem mem_ready' {listed : Array Bool} {i : Nat} : i ∈ Region.ready .any ops listed ↔ i < ops.size ∧ listed.getD i true = false ∧ ∀ e ∈ edgesAt ops.toList i, listed.getD e false = true := by
  unfold Region.ready
  simp only [List.mem_filter, List.mem_range, Bool.and_eq_true, Bool.not_eq_true']
  constructor
  · rintro ⟨h1, h2, h3⟩
    refine ⟨h1, h2, fun e he => ?_⟩
    rw [edgesAt_get (Array.getElem?_eq_getElem h1)] at he
    obtain ⟨ed, g1, g2, rfl⟩ := mem_onOf.1 he
    rw [Array.getElem?_eq_getElem h1] at h3
    simp only [Option.map_some, Option.getD_some, Array.all_eq_true', Bool.or_eq_true, Bool.not_eq_true'] at h3
    rcases h3 ed (by simpa using g1) with h | h
    · rw [g2] at h; cases h
    · exact h
  · rintro ⟨h1, h2, h3⟩
    refine ⟨h1, h2, ?_⟩
    rw [Array.getElem?_eq_getElem h1]
    simp only [Option.map_some, Option.getD_some, Array.all_eq_true', Bool.or_eq_true, Bool.not_eq_true']
    intro ed hed
    cases hb : Region.binds .any ed with
    | false => exact .inl rfl
    | true =>
      refine .inr (h3 _ ?_)
      rw [edgesAt_get (Array.getElem?_eq_getElem h1)]
      exact mem_onOf.2 ⟨ed, by simpa using hed, hb, rfl⟩

/-! ### The invariant -/
variable {s0 s1 : AS} {fs : List Fact} {e0 : Env} {U : Nat → Prop}
def UD (U : Nat → Prop) (fs : List Fact) (D : Nat → Bool) (b : Nat) : Prop := U b ∨ ∃ i x, D i = true ∧ fs[i]? = some x ∧ x.nx ≤ b ∧ b < x.nx'
structure Inv (C : Ctx) (n : Nat) (U : Nat → Prop) (s0 : AS) (fs : List Fact) (e0 : Env) (D : Nat → Bool) (e : Env) (a : Act) : Prop where
  defers : a.defers = []
  size : a.tmps.size = n
  slots : ∀ t, RV e (FD D wS vS 0 fs s0.slots t) (a.tmps.getD t undef)
  mem : MR C e (FD D wM vM 0 fs s0.mem) (UD U fs D)
  ext : Ext e0 e
  frm : Frm e0 s0.mem e (FD D wM vM 0 fs s0.mem)
def Pairs (ops : Array Oper) (fs : List Fact) : Prop := ∀ i j f g, i < j → fs[i]? = some f → fs[j]? = some g → apartB f.fp g.fp = true ∨ befB ops.toList 6 i j = true

theorem inv_step (hU : free U s0.nx s1.nx) (hch : Chain P C n ops ops.toList s0 fs s1) (hp : Pairs ops fs) {D : Nat → Bool} (hD : ∀ j, D j = true → ∀ e ∈ edgesAt ops.toList j, D e = true) {i : Nat} (hi : D i = false) (hpre : ∀ e ∈ edgesAt ops.toList i, D e = true)
    {o : Oper} (ho : ops[i]? = some o) {e : Env} {a : Act} (hv : Inv C n U s0 fs e0 D e a) {Q : Exit → Act → World → Prop} {K : Act → World → Prop}
    (hK : ∀ e' a', Inv C n U s0 fs e0 (fun j => D j || decide (j = i)) e' a' → K a' e'.w) : wpOp P ops Q i K a e.w := by
  obtain ⟨hlen, hat, _, _, _, hbnd⟩ := chain_at _ _ _ _ hch
  have hil : i < fs.length := by
    rw [hlen]
    have := (Array.getElem?_eq_some_iff.1 ho).1
    simpa using this
  obtain ⟨x, hx⟩ : ∃ x, fs[i]? = some x := ⟨_, List.getElem?_eq_getElem hil⟩
  obtain ⟨o', si, ho', hf, hs, hm, hnx, hnx2⟩ := hat i x hx
  have : o' = o := by
    have h2 : ops.toList[i]? = some o := by simpa using ho
    rw [h2] at ho'; cases ho'; rfl
  subst this
  -- before and behind
  have hbef : ∀ j f, j < i → fs[j]? = some f → apartB f.fp x.fp = false → D j = true := by
    intro j f hj hfj hna
    rcases hp j i f x hj hfj hx with h | h
    · rw [hna] at h; cases h
    · exact befB_D hD 6 j i h hpre
  have hbeh : ∀ j f, i < j → fs[j]? = some f → apartB x.fp f.fp = false → D j = false := by
    intro j f hj hfj hna
    cases hd : D j with
    | false => rfl
    | true =>
      rcases hp i j x f hj hx hfj with h | h
      · rw [hna] at h; cases h
      · have := befB_D hD 6 i j h (hD j hd)
        rw [hi] at this; cases this
  have hwS : ∀ (f : Fact) (t : Nat), wS f t = true → f.fp.dst = some t := by
    intro f t h
    unfold wS at h
    cases hd : f.fp.dst with
    | none => rw [hd] at h; cases h
    | some d => rw [hd] at h; rw [Nat.eq_of_beq_eq_true h]
  have meets_of : ∀ (l r : List Nat) (b : Nat), memB l b = true → memB r b = true → meets l r = true := by
    intro l r b h1 h2
    unfold meets
    rw [List.any_eq_true]
    exact ⟨b, memB_iff.1 h1, h2⟩
  have agreeS : ∀ t, memB x.fp.rs t = true → FD D wS vS 0 fs s0.slots t = si.slots t := by
    intro t ht
    rw [hs t]
    refine FD_congr fs 0 _ _ (fun j f hfj hw => ?_) rfl
    have hd := hwS f t hw
    simp only [Nat.zero_add]
    rcases Nat.lt_trichotomy j i with hlt | heq | hgt
    · rw [hbef j f hlt hfj (by simp [apartB, memO, hd, ht])]; simp [hlt]
    · subst heq; rw [hi]; simp
    · rw [hbeh j f hgt hfj (by simp [apartB, memO, hd, ht])]; simp; omega
  have agreeM : ∀ b, memB x.fp.R b = true → FD D wM vM 0 fs s0.mem b = si.mem b := by
    intro b hb
    rw [hm b]
    refine FD_congr fs 0 _ _ (fun j f hfj hw => ?_) rfl
    simp only [Nat.zero_add]
    rcases Nat.lt_trichotomy j i with hlt | heq | hgt
    · rw [hbef j f hlt hfj (by simp [apartB, meets_of _ _ b hw hb])]; simp [hlt]
    · subst heq; rw [hi]; simp
    · rw [hbeh j f hgt hfj (by simp [apartB, meets_of _ _ b hb hw])]; simp; omega
  have honly : onlyM x.fp.R (FD D wM vM 0 fs s0.mem) = onlyM x.fp.R si.mem := by
    funext b
    unfold onlyM
    cases hb : memB x.fp.R b with
    | true => simp only; exact agreeM b hb
    | false => rfl
  have hfresh : ∀ b, x.nx ≤ b → b < x.nx' → ¬ UD U fs D b := by
    rintro b h1 h2 (h3 | ⟨j, z, hz1, hz2, hz3, hz4⟩)
    · have := hf.nx
      have := hbnd i x hx
      exact hU b (by omega) (by omega) h3
    · rcases Nat.lt_trichotomy j i with hlt | heq | hgt
      · have := hnx2 j z hlt hz2; omega
      · subst heq; rw [hi] at hz1; cases hz1
      · obtain ⟨_, _, _, _, _, _, _, g⟩ := hat j z hz2
        have := g i x hgt hx
        omega
  have hafterS : ∀ t, FD (fun j => D j || decide (j = i)) wS vS 0 fs s0.slots t = putD (FD D wS vS 0 fs s0.slots) x.fp.dst x.v t := by
    intro t
    rw [putD_eq]
    simp only
    cases hw : wS x t with
    | true =>
      rw [if_pos (by simp)]
      refine FD_last hw fs 0 i _ hx (by simp) fun j f hj hfj hwf => ?_
      have hd := hwS f t hwf
      have hd2 := hwS x t hw
      simp only [Nat.zero_add]
      rw [hbeh j f hj hfj (by simp [apartB, eqO, hd, hd2])]
      simp; omega
    | false =>
      rw [if_neg (by simp)]
      refine FD_congr fs 0 _ _ (fun j f hfj hwf => ?_) rfl
      simp only [Nat.zero_add]
      by_cases hji : j = i
      · subst hji; rw [hx] at hfj; cases hfj; rw [hw] at hwf; cases hwf
      · simp [hji]
  have hafterM : FD (fun j => D j || decide (j = i)) wM vM 0 fs s0.mem = over x.fp.W x.m (FD D wM vM 0 fs s0.mem) := by
    funext b
    rw [over_eq]
    simp only
    cases hw : wM x b with
    | true =>
      rw [if_pos (by simp)]
      refine FD_last hw fs 0 i _ hx (by simp) fun j f hj hfj hwf => ?_
      simp only [Nat.zero_add]
      rw [hbeh j f hj hfj (by simp [apartB, meets_of _ _ b hw hwf])]
      simp; omega
    | false =>
      rw [if_neg (by simp)]
      refine FD_congr fs 0 _ _ (fun j f hfj hwf => ?_) rfl
      simp only [Nat.zero_add]
      by_cases hji : j = i
      · subst hji; rw [hx] at hfj; cases hfj; rw [hw] at hwf; cases hwf
      · simp [hji]
  have hrun := hf.run e a (UD U fs D) (fun t ht => by rw [← agreeS t ht]; exact hv.slots t) (by rw [← honly]; exact hv.mem.drop (only_sub _ _)) hfresh
  -- behind the operation
  have fin : ∀ z w', Res C e (onlyM x.fp.R si.mem) (UD U fs D) x.nx x.nx' x.v (over x.fp.W x.m (onlyM x.fp.R si.mem)) z w' → K (a.put o'.dst z) w' := by
    rintro z w' ⟨e', rfl, hx', hm', hfr, hvz⟩
    rw [← honly] at hm' hfr
    obtain ⟨g1, g2⟩ := hv.mem.part hx' hm' hfr
    refine hK e' _ ⟨?_, ?_, ?_, ?_, hv.ext.trans hx', ?_⟩
    · cases o'.dst <;> exact hv.defers
    · cases hd : o'.dst <;> simp [Act.put, hv.size]
    · intro t
      rw [hafterS t, hf.dst]
      exact put_slots (fun i => (hv.slots i).ext hx') hv.size hf.lt hvz t
    · rw [hafterM]
      refine g1.widen fun b hb => ?_
      rcases hb with (h | ⟨j, y, h1, h2, h3⟩) | h
      · exact .inl h
      · exact .inr ⟨j, y, by simp [h1], h2, h3⟩
      · exact .inr ⟨i, x, by simp, hx, h⟩
    · rw [hafterM]; exact hv.frm.trans g2
  unfold wpOp
  rw [ho]
  simp only
  unfold GRun at hrun
  split
  · rename_i hw
    rw [if_pos hw] at hrun
    exact .inl (OpRun.wp (hrun.mono fin))
  · rename_i hw
    rw [if_neg hw] at hrun
    exact fin _ _ hrun

theorem count_set : ∀ (l : List Bool) (i : Nat), l[i]? = some false → (l.set i true).count false + 1 = l.count false
  | [], i, h => by simp at h
  | b :: l, 0, h => by simp at h; subst h; simp
  | b :: l, i + 1, h => by
    have := count_set l i (by simpa using h)
    simp only [List.set_cons_succ, List.count_cons]
    omega
theorem any_ok (hU : free U s0.nx s1.nx) (hch : Chain P C n ops ops.toList s0 fs s1) (hp : Pairs ops fs) (hback : ∀ j, ∀ e ∈ edgesAt ops.toList j, e < j) {Q : Exit → Act → World → Prop}
    (hQ : ∀ e a D, (∀ j, j < ops.size → D j = true) → Inv C n U s0 fs e0 D e a → Q .normal a e.w) :
    ∀ (fuel : Nat) (listed : Array Bool) (e : Env) (a : Act), listed.size = ops.size → listed.toList.count false ≤ fuel → (∀ j, listed.getD j false = true → ∀ e ∈ edgesAt ops.toList j, listed.getD e false = true) →
      Inv C n U s0 fs e0 (fun j => listed.getD j false) e a → wpAny P .any ops Q fuel listed a e.w := by
  intro fuel
  have hnil : ∀ listed : Array Bool, listed.size = ops.size → Region.ready .any ops listed = [] → ∀ j, j < ops.size → listed.getD j false = true := by
    intro listed hsz hr j
    induction j using Nat.strongRecOn with
    | _ j ih =>
      intro hj
      cases hd : listed.getD j false with
      | true => rfl
      | false =>
        have : j ∈ Region.ready .any ops listed := mem_ready'.2 ⟨hj, by
          simp [Array.getD_eq_getD_getElem?, Array.getElem?_eq_getElem (show j < listed.size by omega)] at hd ⊢; exact hd, fun e he => ih e (hback j e he) (Nat.lt_trans (hback j e he) hj)⟩
        rw [hr] at this; cases this
  induction fuel with
  | zero =>
    intro listed e a hsz hc hD hv
    have hall : ∀ j, j < ops.size → listed.getD j false = true := by
      intro j hj
      have h0 : listed.toList.count false = 0 := by omega
      rw [List.count_eq_zero] at h0
      cases hd : listed.getD j false with
      | true => rfl
      | false =>
        exfalso; apply h0
        have hj' : j < listed.size := by omega
        simp [Array.getD_eq_getD_getElem?, Array.getElem?_eq_getElem hj'] at hd
        rw [← hd]; simp
    refine ⟨?_, hQ e a _ hall hv⟩
    cases hr : Region.ready .any ops listed with
    | nil => rfl
    | cons i r =>
      have : i ∈ Region.ready .any ops listed := by rw [hr]; simp
      obtain ⟨h1, h2, _⟩ := mem_ready'.1 this
      have := hall i h1
      have hi : i < listed.size := by omega
      simp [Array.getD_eq_getD_getElem?, Array.getElem?_eq_getElem hi] at h2 this
      rw [h2] at this; cases this
  | succ fuel ih =>
    intro listed e a hsz hc hD hv
    refine ⟨fun hr => hQ e a _ (hnil listed hsz hr) hv, fun i hi => ?_⟩
    obtain ⟨h1, h2, h3⟩ := mem_ready'.1 hi
    have hil : i < listed.size := by omega
    have hfalse : listed.getD i false = false := by
      simp [Array.getD_eq_getD_getElem?, Array.getElem?_eq_getElem hil] at h2 ⊢; exact h2
    have hset : ∀ j, (listed.setIfInBounds i true).getD j false = (listed.getD j false || decide (j = i)) := by
      intro j
      rw [Array.getD_eq_getD_getElem?, Array.getElem?_setIfInBounds, Array.getD_eq_getD_getElem?]
      by_cases hji : i = j
      · subst hji; simp [hil]
      · simp [hji]; intro he; exact absurd he.symm hji
    refine inv_step hU hch hp hD hfalse h3 (Array.getElem?_eq_getElem h1) hv fun e' a' hv' => ?_
    refine ih _ e' a' (by simp [hsz]) ?_ ?_ ?_
    · have hl : listed.toList[i]? = some false := by
        simp [Array.getD_eq_getD_getElem?, Array.getElem?_eq_getElem hil] at hfalse
        simp [hil, hfalse]
      have := count_set listed.toList i hl
      rw [Array.toList_setIfInBounds]
      omega
    · intro j hj e he
      rw [hset] at hj ⊢
      simp only [Bool.or_eq_true, decide_eq_true_eq] at hj ⊢
      rcases hj with hj | rfl
      · exact .inl (hD j hj e he)
      · exact .inl (h3 e he)
    · have : (fun j => (listed.setIfInBounds i true).getD j false) = fun j => listed.getD j false || decide (j = i) := funext hset
      rw [this]; exact hv'

theorem backB_ok : ∀ (l : List Oper) (i : Nat), backB i l = true → ∀ j o, l[j]? = some o → ∀ e ∈ onOf o.after.toList, e < i + j
  | [], _, _, j, o, h => by simp at h
  | p :: l, i, hb, 0, o, h => by
    simp at h; subst h
    simp [backB] at hb
    exact fun e he => by simpa using hb.1 e he
  | p :: l, i, hb, j + 1, o, h => by
    simp [backB] at hb
    intro e he
    have := backB_ok l (i + 1) hb.2 j o (by simpa using h) e he
    omega
theorem rowB_ok {all : List Oper} {j : Nat} {g : FP} : ∀ (l : List FP) (i : Nat), rowB all j g i l = true → ∀ k f, l[k]? = some f → i + k < j → apartB f g = true ∨ befB all 6 (i + k) j = true
  | [], _, _, k, f, h, _ => by simp at h
  | p :: l, i, hb, 0, f, h, hlt => by
    simp at h; subst h
    simp only [rowB, Bool.and_eq_true] at hb
    have hl : Nat.blt i j = true := by simpa using hlt
    have := hb.1
    rw [hl] at this
    simpa using this
  | p :: l, i, hb, k + 1, f, h, hlt => by
    simp only [rowB, Bool.and_eq_true] at hb
    have := rowB_ok l (i + 1) hb.2 k f (by simpa using h) (by omega)
    rwa [show i + 1 + k = i + (k + 1) by omega] at this
theorem allB_ok {all : List Oper} {fs : List FP} : ∀ (l : List FP) (j : Nat), allB all fs j l = true → ∀ k g, l[k]? = some g → rowB all (j + k) g 0 fs = true
  | [], _, _, k, g, h => by simp at h
  | p :: l, j, hb, 0, g, h => by
    simp at h; subst h
    simp only [allB, Bool.and_eq_true] at hb
    exact hb.1
  | p :: l, j, hb, k + 1, g, h => by
    simp only [allB, Bool.and_eq_true] at hb
    have := allB_ok l (j + 1) hb.2 k g (by simpa using h)
    rwa [show j + 1 + k = j + (k + 1) by omega] at this
theorem draw_ok (hdraw : P.follows .mixedOrders = true) (hch : Chain P C n ops ops.toList s0 fs s1) (hfine : drawFine ops.toList (fs.map (·.fp)) = true) {id : Nat} {e : Env} {a : Act} (hU : free U s0.nx s1.nx) (hf : Fit C n U e s0 a) {Q : Exit → Act → World → Prop}
    (hQ : ∀ e' a', Fit C n (taken U s0.nx s1.nx) e' s1 a' → Ext e e' → Frm e s0.mem e' s1.mem → Q .normal a' e'.w) : (Code.region id ops true).wp P Q a e.w := by
  simp only [drawFine, Bool.and_eq_true] at hfine
  obtain ⟨hb, ha⟩ := hfine
  obtain ⟨hlen, hat, hS, hM, hnx, hnx'⟩ := chain_at _ _ _ _ hch
  have hp : Pairs ops fs := by
    intro i j f g hij hfi hgj
    have h1 := allB_ok _ 0 ha j g.fp (by simp [hgj])
    simp only [Nat.zero_add] at h1
    have h2 := rowB_ok _ 0 h1 i f.fp (by simp [hfi]) (by omega)
    simpa using h2
  have hback : ∀ j, ∀ e ∈ edgesAt ops.toList j, e < j := by
    intro j e he
    cases ho : ops[j]? with
    | none => rw [edgesAt_none ho] at he; cases he
    | some o =>
      rw [edgesAt_get ho] at he
      have := backB_ok ops.toList 0 hb j o (by simpa using ho) e he
      omega
  refine wp_region_any hdraw ?_
  -- the draw itself turns nothing
  have hbel : Blw e.w.heap.size e.w { e.w with drawn := e.w.drawn + 1 } := ⟨⟨rfl, rfl, rfl, Nat.le_refl _, fun _ _ => rfl⟩, fun _ => rfl⟩
  obtain ⟨hm1, hx1⟩ := hf.mem.grow' hbel
  have hfr1 : Frm e s0.mem { e with w := { e.w with drawn := e.w.drawn + 1 } } s0.mem := ⟨fun _ _ _ => rfl, Nat.le_refl _, fun _ h => .inl h, fun _ h => .inl h⟩
  have hD0 : ∀ j, (Array.replicate ops.size false).getD j false = false := by
    intro j
    simp only [Array.getD_eq_getD_getElem?, Array.getElem?_replicate]
    split <;> rfl
  refine any_ok (e0 := e) (U := U) hU hch hp hback ?_ ops.size _ { e with w := { e.w with drawn := e.w.drawn + 1 } } a (by simp) (by simp) (fun j hj => by rw [hD0] at hj; cases hj) ?_
  · intro e' a' D hall hv
    have hDall : ∀ j x, fs[j]? = some x → D (0 + j) = true := fun j x hx => by
      have hj := (List.getElem?_eq_some_iff.1 hx).1
      rw [Nat.zero_add]
      refine hall j ?_
      rw [hlen] at hj; simpa using hj
    have hSe : ∀ t, FD D wS vS 0 fs s0.slots t = s1.slots t := fun t => by
      rw [hS t]; exact FD_congr fs 0 _ _ (fun j x hx _ => hDall j x hx) rfl
    have hMe : FD D wM vM 0 fs s0.mem = s1.mem := funext fun b => by
      rw [hM b]; exact FD_congr fs 0 _ _ (fun j x hx _ => hDall j x hx) rfl
    refine hQ e' a' ⟨hv.defers, hv.size, fun t => by rw [← hSe t]; exact hv.slots t, ?_⟩ hv.ext (by rw [← hMe]; exact hv.frm)
    rw [← hMe]
    refine hv.mem.widen fun b hb => ?_
    rcases hb with h | ⟨i, x, _, hx, h0, h⟩
    · exact .inl h
    · have := hnx' i x hx
      obtain ⟨_, si, _, hfx, _, _, hle, _⟩ := hat i x hx
      have := hfx.nx
      exact .inr ⟨by omega, by omega⟩
  · have hSe : ∀ t, FD (fun j => (Array.replicate ops.size false).getD j false) wS vS 0 fs s0.slots t = s0.slots t := fun t => FD_none fs 0 _ (fun j x _ _ => hD0 _)
    have hMe : FD (fun j => (Array.replicate ops.size false).getD j false) wM vM 0 fs s0.mem = s0.mem := funext fun b => FD_none fs 0 _ (fun j x _ _ => hD0 _)
    refine ⟨hf.defers, hf.size, fun t => by rw [hSe t]; exact (hf.slots t).ext hx1, ?_, hx1, ?_⟩
    · rw [hMe]; exact hm1.widen fun b hb => .inl hb
    · rw [hMe]; exact hfr1
end
end Go.Co
