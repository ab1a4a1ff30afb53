/-
  Loops: the rounds' function told of a run.
  Own text, for the claims about coterie.
-/
import Derived.Test.YtghmcodjbkmlnaaCoFun
namespace Go.Co
open Go.RowKit

theorem catL_eq {α : Type} (a b : List α) : catL a b = a ++ b := by
  induction a with
  | nil => rfl
  | cons x a ih => simp [catL, ih]
theorem eqPS_eq {a b : PS} (h : eqPS a b = true) : a = b := by
  cases a <;> cases b <;> simp [eqPS] at h
  · rw [h]
  · rw [h]
theorem eqP_eq : ∀ {a b : List PS}, eqP a b = true → a = b
  | [], [], _ => rfl
  | _ :: _, _ :: _, h => by simp [eqP] at h; rw [eqPS_eq h.1, eqP_eq h.2]
theorem eqL_eq : ∀ {a b : List Nat}, eqL a b = true → a = b
  | [], [], _ => rfl
  | _ :: _, _ :: _, h => by simp [eqL] at h; rw [h.1, eqL_eq h.2]
theorem rowFree_rows : ∀ {v : AV} {b : Nat}, rowFree v = true → ¬ rowsOf v b := by
  intro v
  induction v with
  | sl b => intro b h; simp [rowFree] at h
  | asl b p => intro b h; simp [rowFree] at h
  | agv s l ih => intro b h; exact ih h
  | cons a l iha ihl =>
    intro b h
    simp [rowFree] at h
    rintro (h1 | h1)
    · exact iha h.1 h1
    · exact ihl h.2 h1
  | _ => intro b _ h; exact h

/-- A row's place, and what lies there. -/
def RowRel (m : Mem) (r : Ty × Option Nat) (ab : AB) : Prop :=
  match r.2 with
  | some b => ∃ xs, m b = .slab r.1 xs ∧ ab = .slab r.1 xs
  | none => ab = .slab r.1 []
theorem rd_rows {m : Mem} : ∀ (sh : Sh) (v : AV) (x : sh.den), rdAV sh m v = some x → All2 (RowRel m) (rdRows sh v) (rowsX sh x) ∧ (rdRows sh v).length = rowsIn sh := by
  intro sh
  induction sh with
  | row t =>
    intro v x h
    simp only [rdAV] at h
    split at h
    · cases h; exact ⟨⟨rfl, trivial⟩, rfl⟩
    · rename_i b
      split at h
      · rename_i e xs hm
        obtain ⟨e1, hx⟩ := cast?_some h
        cases e1
        have hx : xs = x := hx
        subst hx
        exact ⟨⟨⟨xs, hm, rfl⟩, trivial⟩, rfl⟩
      · cases h
    · cases h
  | agv s l ih =>
    intro v x h
    simp only [rdAV] at h
    split at h
    · split at h
      · exact ih _ x h
      · cases h
    · cases h
  | cons a l iha ihl =>
    intro v x h
    simp only [rdAV] at h
    split at h
    · split at h
      · rename_i p q hp hq
        cases h
        obtain ⟨h1, h2⟩ := iha _ p hp
        obtain ⟨h3, h4⟩ := ihl _ q hq
        simp only [rdRows, rowsX, catL_eq, rowsIn]
        exact ⟨h1.append h3, by simp [h2, h4]⟩
      · cases h
    · cases h
  | _ => intro v x _; exact ⟨trivial, rfl⟩

/-- The other names of the one environment in the other. -/
structure Ren (e e' : Env) (base k : Nat) (rows : List (Ty × Option Nat)) : Prop where
  w : e'.w = e.w
  imm : e'.imm = e.imm
  old : ∀ b, b < base → e'.ρ b = e.ρ b
  row : ∀ (i : Nat) (t : Ty) (o : Option Nat), rows[i]? = some (t, o) → e'.ρ (k + i) = match o with | some b => e.ρ b | none => some (.nilslab t)
theorem Ren.left {e e' : Env} {base k : Nat} {r s : List (Ty × Option Nat)} (h : Ren e e' base k (r ++ s)) : Ren e e' base k r :=
  ⟨h.w, h.imm, h.old, fun i t o hi => h.row i t o (by rw [List.getElem?_append_left (List.getElem?_eq_some_iff.1 hi).1]; exact hi)⟩
theorem Ren.right {e e' : Env} {base k : Nat} {r s : List (Ty × Option Nat)} (h : Ren e e' base k (r ++ s)) : Ren e e' base (k + r.length) s :=
  ⟨h.w, h.imm, h.old, fun i t o hi => by
    have := h.row (r.length + i) t o (by rw [List.getElem?_append_right (by omega), Nat.add_sub_cancel_left]; exact hi)
    rwa [← Nat.add_assoc] at this⟩
theorem caps_ren {ρ ρ' : Nat → Option BT} {base : Nat} (h : ∀ b, b < base → ρ' b = ρ b) : ∀ {c : List Nat} {vs : List Value}, c.all (Nat.blt · base) = true → capsRel ρ c vs → capsRel ρ' c vs
  | [], [], _, _ => trivial
  | b :: c, v :: vs, hb, ⟨⟨k, t, h1, h2⟩, h3⟩ => by
    simp at hb
    exact ⟨⟨k, t, by rw [h b hb.1]; exact h1, h2⟩, caps_ren h (by simpa using hb.2) h3⟩
theorem rd_RC {C : Ctx} {e e' : Env} {m : Mem} {U : Nat → Prop} {base : Nat} (hm : MR C e m U) : ∀ (sh : Sh) (v : AV) (x : sh.den) (k : Nat) (cs : List Value), rdAV sh m v = some x → shBelow base sh = true → Ren e e' base k (rdRows sh v) → RC e v cs → RC e' (mkAV sh k x) cs := by
  intro sh
  induction sh with
  | junk => intro v x k cs _ h; simp [shBelow] at h
  | hole t =>
    intro v x k cs h _ hr hc
    simp only [rdAV] at h
    split at h
    · rename_i _ hf
      have := toPure_RC hm (im := e.imm) (fun _ h => h) v t x cs h hc (fun b bt k hb => absurd hb (rowFree_rows hf))
      show Rd e'.w e'.imm t x cs
      rw [hr.w, hr.imm]; exact this
    · cases h
  | row t =>
    intro v x k cs h _ hr hc
    simp only [rdAV] at h
    split at h
    · have h1 := hr.row 0 t none rfl
      exact .inl ⟨t, h1, hc⟩
    · rename_i b
      have h1 := hr.row 0 t (some b) rfl
      rcases hc with ⟨t', hb, he⟩ | ⟨k', t', cap, len, hb, he⟩
      · exact .inl ⟨t', by rw [show k = k + 0 from rfl, h1]; exact hb, he⟩
      · exact .inr ⟨k', t', cap, len, by rw [show k = k + 0 from rfl, h1]; exact hb, he⟩
    · cases h
  | eptr t =>
    intro v x k cs h _ hr hc
    simp only [rdAV] at h
    split at h
    · obtain ⟨e1, hx⟩ := cast?_some h
      subst e1; subst hx
      obtain ⟨a, c, h1, h2, h3, h4, h5⟩ := hc
      exact ⟨a, c, h1, h2, by rw [hr.imm]; exact h3, by rw [hr.w, hr.imm]; exact h4, by rw [hr.w]; exact h5⟩
    · cases h
  | nils =>
    intro v x k cs h _ hr hc
    cases v <;> simp [rdAV] at h
    exact hc
  | ptr b p =>
    intro v x k cs h hb hr hc
    cases v <;> simp only [rdAV] at h <;> try (cases h; done)
    split at h
    · rename_i h1 h2
      have := Nat.eq_of_beq_eq_true h1; subst this
      have := eqP_eq h2; subst this
      obtain ⟨bt, k', u, o, g1, g2⟩ := hc
      simp [shBelow] at hb
      exact ⟨bt, k', u, o, by rw [hr.old b hb]; exact g1, g2⟩
    · cases h
  | mp b =>
    intro v x k cs h hb hr hc
    cases v <;> simp only [rdAV] at h <;> try (cases h; done)
    split at h
    · rename_i h1
      have := Nat.eq_of_beq_eq_true h1; subst this
      obtain ⟨k', u, o, g1, g2⟩ := hc
      simp [shBelow] at hb
      exact ⟨k', u, o, by rw [hr.old b hb]; exact g1, g2⟩
    · cases h
  | asl b p =>
    intro v x k cs h hb hr hc
    cases v <;> simp only [rdAV] at h <;> try (cases h; done)
    split at h
    · rename_i h1 h2
      have := Nat.eq_of_beq_eq_true h1; subst this
      have := eqP_eq h2; subst this
      obtain ⟨k', t, n', u, o, g1, g2⟩ := hc
      simp [shBelow] at hb
      exact ⟨k', t, n', u, o, by rw [hr.old b hb]; exact g1, g2⟩
    · cases h
  | fn f c =>
    intro v x k cs h hb hr hc
    cases v <;> simp only [rdAV] at h <;> try (cases h; done)
    split at h
    · rename_i h1 h2
      have := Nat.eq_of_beq_eq_true h1; subst this
      have := eqL_eq h2; subst this
      obtain ⟨vs, g1, g2⟩ := hc
      exact ⟨vs, caps_ren hr.old hb g1, g2⟩
    · cases h
  | nilp =>
    intro v x k cs h _ hr hc
    cases v <;> simp [rdAV] at h
    exact hc
  | agv s l ih =>
    intro v x k cs h hb hr hc
    cases v <;> simp only [rdAV] at h <;> try (cases h; done)
    split at h
    · exact ih _ x k cs h hb hr hc
    · cases h
  | nil =>
    intro v x k cs h _ hr hc
    cases v <;> simp [rdAV] at h
    exact hc
  | cons a l iha ihl =>
    intro v x k cs h hb hr hc
    cases v <;> simp only [rdAV] at h <;> try (cases h; done)
    rename_i b r
    split at h
    · rename_i p q hp hq
      cases h
      simp only [shBelow, Bool.and_eq_true] at hb
      simp only [rdRows, catL_eq] at hr
      obtain ⟨c, d, rfl, h1, h2⟩ := hc
      have hlen := (rd_rows a b p hp).2
      refine ⟨c, d, rfl, iha _ p k c hp hb.1 hr.left h1, ?_⟩
      have := hr.right
      rw [hlen] at this
      exact ihl _ q _ d hq hb.2 this h2
    · cases h
theorem mk_agg {m : Mem} {sh : Sh} {v : AV} {x : sh.den} {k : Nat} (h : rdAV sh m v = some x) (hj : sh ≠ .junk) : (mkAV sh k x).isAgg = v.isAgg := by
  cases sh with
  | junk => exact absurd rfl hj
  | hole t =>
    simp only [rdAV] at h
    split at h
    · rename_i hp _
      refine (toPure_agg h ?_ ?_).symm
      · rintro rfl; cases t <;> simp [toPure] at h; simp [plainTy] at hp
      · rintro a l rfl; cases t <;> simp [toPure] at h; simp [plainTy] at hp
    · cases h
  | _ => cases v <;> simp [rdAV] at h <;> rfl
theorem rd_RV {C : Ctx} {e e' : Env} {m : Mem} {U : Nat → Prop} {base : Nat} (hm : MR C e m U) {sh : Sh} {v : AV} {x : sh.den} {k : Nat} {z : Value} (h : rdAV sh m v = some x) (hb : shBelow base sh = true) (hr : Ren e e' base k (rdRows sh v)) (hz : RV e v z) : RV e' (mkAV sh k x) z := by
  have hj : sh ≠ .junk := by rintro rfl; simp [shBelow] at hb
  obtain ⟨cs, rfl, hc⟩ := hz.cells (by
    rintro rfl
    cases sh <;> simp [rdAV] at h
    · exact hj rfl
    · split at h <;> simp [toPure] at h) (by
    rintro l rfl
    cases sh <;> simp [rdAV] at h
    · exact hj rfl
    · split at h <;> simp [toPure] at h)
  rw [← mk_agg (k := k) h hj]
  exact RV.of (rd_RC hm sh v x k cs h hb hr hc)

/-! ### States -/
theorem rdSl_rows : ∀ (l : List (Nat × Sh)) (s : AS) (x : denSl l), rdSl l s = some x → All2 (RowRel s.mem) (rdRowsSl l s) (rowsSlX l x) ∧ (rdRowsSl l s).length = rowsSl l
  | [], _, _, _ => ⟨trivial, rfl⟩
  | (i, sh) :: r, s, x, h => by
    simp only [rdSl] at h
    split at h
    · rename_i p q hp hq
      cases h
      obtain ⟨h1, h2⟩ := rd_rows sh _ p hp
      obtain ⟨h3, h4⟩ := rdSl_rows r s q hq
      simp only [rdRowsSl, rowsSlX, catL_eq, rowsSl]
      exact ⟨h1.append h3, by simp [h2, h4]⟩
    · cases h
theorem rdVr_rows : ∀ (l : List (Nat × Ty × Sh)) (k : Nat) (s : AS) (x : denVr l), rdVr l k s = some x → All2 (RowRel s.mem) (rdRowsVr l s) (rowsVrX l x) ∧ (rdRowsVr l s).length = rowsVr l
  | [], _, _, _, _ => ⟨trivial, rfl⟩
  | (b, t, sh) :: r, k, s, x, h => by
    simp only [rdVr] at h
    split at h
    · rename_i u v hm
      split at h
      · rename_i p hu hp
        split at h
        · rename_i q _ hq
          cases h
          obtain ⟨h1, h2⟩ := rd_rows sh _ p hp
          obtain ⟨h3, h4⟩ := rdVr_rows r _ s q hq
          simp only [rdRowsVr, rowsVrX, catL_eq, rowsVr, hm]
          exact ⟨h1.append h3, by simp [h2, h4]⟩
        · cases h
      · cases h
    · cases h
theorem mkSl_RV {C : Ctx} {e e' : Env} {s : AS} {a : Act} {U : Nat → Prop} {base : Nat} (hm : MR C e s.mem U) (hs : ∀ i, RV e (s.slots i) (a.tmps.getD i undef)) : ∀ (l : List (Nat × Sh)) (x : denSl l) (k : Nat), rdSl l s = some x → l.all (fun e => shBelow base e.2) = true → Ren e e' base k (rdRowsSl l s) →
    ∀ i, RV e' (mkSl l k x i) (a.tmps.getD i undef)
  | [], _, _, _, _, _, _ => trivial
  | (j, sh) :: r, x, k, h, hb, hr, i => by
    simp only [rdSl] at h
    split at h
    · rename_i p q hp hq
      cases h
      simp only [List.all_cons, Bool.and_eq_true] at hb
      simp only [rdRowsSl, catL_eq] at hr
      simp only [mkSl]
      cases hij : Nat.beq i j with
      | true =>
        have := Nat.eq_of_beq_eq_true hij; subst this
        exact rd_RV hm hp hb.1 hr.left (hs i)
      | false =>
        have h2 := hr.right
        rw [(rd_rows sh _ p hp).2] at h2
        exact mkSl_RV hm hs r q _ hq hb.2 h2 i
    · cases h
theorem mkVr_RM {C : Ctx} {e e' : Env} {s : AS} {U : Nat → Prop} {base : Nat} (hm : MR C e s.mem U) : ∀ (l : List (Nat × Ty × Sh)) (x : denVr l) (k : Nat), rdVr l k s = some x → l.all (fun e => Nat.blt e.1 base && shBelow base e.2.2) = true → Ren e e' base k (rdRowsVr l s) →
    ∀ b, mkVr l k x b = .none ∨ (b < base ∧ RM e' b (mkVr l k x b) ∧ ∃ t v, s.mem b = .var t v)
  | [], _, _, _, _, _, _ => .inl rfl
  | (j, t, sh) :: r, x, k, h, hb, hr, b => by
    simp only [rdVr] at h
    split at h
    · rename_i u v hmj
      split at h
      · rename_i p hu hp
        have hu := Ty.eq_of_eqb hu; subst hu
        split at h
        · rename_i q hh hq
          cases h
          simp only [List.all_cons, Bool.and_eq_true] at hb
          simp only [rdRowsVr, catL_eq, hmj] at hr
          simp only [mkVr]
          cases hij : Nat.beq b j with
          | true =>
            have := Nat.eq_of_beq_eq_true hij; subst this
            have hbl := hm.blocks b
            rw [hmj] at hbl
            obtain ⟨_, k', cs, el, h1, h2, h3⟩ := hbl
            have hlt : b < base := by simpa using hb.1.1
            exact .inr ⟨hlt, ⟨hh, k', cs, el, by rw [hr.old b hlt]; exact h1, by rw [hr.w]; exact h2, rd_RC hm sh v p k _ hp hb.1.2 hr.left h3⟩, u, v, hmj⟩
          | false =>
            have h2 := hr.right
            rw [(rd_rows sh _ p hp).2] at h2
            exact mkVr_RM hm r q _ hq hb.2 h2 b
        · cases h
      · cases h
    · cases h
theorem mkMp_RM {C : Ctx} {e e' : Env} {s : AS} {U : Nat → Prop} {base : Nat} (hm : MR C e s.mem U) (hw : e'.w = e.w) (hi : e'.imm = e.imm) (hold : ∀ b, b < base → e'.ρ b = e.ρ b) : ∀ (l : List (Nat × Ty × Ty)) (x : denMp l), rdMp l s = some x → l.all (fun e => Nat.blt e.1 base) = true →
    ∀ b, mkMp l x b = .none ∨ (b < base ∧ RM e' b (mkMp l x b) ∧ ∃ k v l, s.mem b = .map k v l)
  | [], _, _, _, _ => .inl rfl
  | (j, k, v) :: r, x, h, hb, b => by
    simp only [rdMp] at h
    split at h
    · rename_i k' v' l' hmj
      split at h
      · rename_i p q hp hq
        cases h
        simp only [List.all_cons, Bool.and_eq_true] at hb
        simp only [mkMp]
        cases hij : Nat.beq b j with
        | true =>
          have := Nat.eq_of_beq_eq_true hij; subst this
          have hlt : b < base := by simpa using hb.1
          obtain ⟨e1, hx⟩ := cast?_some hp
          cases e1
          have hx : l' = p := hx
          subst hx
          have hbl := hm.blocks b
          rw [hmj] at hbl
          obtain ⟨k0, es, clock, h1, h2, h3, h4⟩ := hbl
          refine .inr ⟨hlt, ⟨k0, es, clock, by rw [hold b hlt]; exact h1, by rw [hw]; exact h2, h3.mono fun x y hxy => ?_, h4⟩, _, _, _, hmj⟩
          unfold RE at *
          rw [hw, hi]; exact hxy
        | false => exact mkMp_RM hm hw hi hold r q hq hb.2 b
      · cases h
    · cases h
theorem nthB_get : ∀ (l : List AB) (i : Nat), nthB l i = .none ∨ l[i]? = some (nthB l i)
  | [], _ => .inl rfl
  | _ :: _, 0 => .inr rfl
  | _ :: r, i + 1 => nthB_get r i
theorem inNames_iff : ∀ {l : List (Ty × Option Nat)} {b : Nat} {i : Nat} {t : Ty}, l[i]? = some (t, some b) → inNames l b = true
  | [], _, _, _, h => by simp at h
  | (u, o) :: r, b, 0, t, h => by
    simp at h; obtain ⟨_, rfl⟩ := h
    simp [inNames]
  | (u, some a) :: r, b, i + 1, t, h => by
    simp only [inNames, Bool.or_eq_true]
    exact .inr (inNames_iff (i := i) (by simpa using h))
  | (u, none) :: r, b, i + 1, t, h => by
    simp only [inNames]
    exact inNames_iff (i := i) (by simpa using h)
theorem nodupN_get : ∀ {l : List (Ty × Option Nat)} {i j : Nat} {b : Nat} {t u : Ty}, nodupN l = true → l[i]? = some (t, some b) → l[j]? = some (u, some b) → i = j
  | [], _, _, _, _, _, _, h, _ => by simp at h
  | (v, o) :: r, 0, 0, _, _, _, _, _, _ => rfl
  | (v, o) :: r, 0, j + 1, b, t, u, hn, h1, h2 => by
    simp at h1; obtain ⟨_, rfl⟩ := h1
    simp [nodupN] at hn
    rw [inNames_iff (i := j) (by simpa using h2)] at hn
    exact absurd hn.1 (by simp)
  | (v, o) :: r, i + 1, 0, b, t, u, hn, h1, h2 => by
    simp at h2; obtain ⟨_, rfl⟩ := h2
    simp [nodupN] at hn
    rw [inNames_iff (i := i) (by simpa using h1)] at hn
    exact absurd hn.1 (by simp)
  | (v, o) :: r, i + 1, j + 1, b, t, u, hn, h1, h2 => by
    have hn' : nodupN r = true := by
      cases o <;> simp [nodupN] at hn
      · exact hn
      · exact hn.2
    rw [nodupN_get (i := i) (j := j) hn' (by simpa using h1) (by simpa using h2)]

/-- A state that holds as much: the same frame and memory fit it, under other names for the rows. -/
theorem refit {C : Ctx} {n : Nat} {U0 Ue : Nat → Prop} {e0 e : Env} {m0 : Mem} {s : AS} {a : Act} {D : SD} {base : Nat} {x : D.den} (h : Fit C n Ue e s a) (hUe : ∀ b, Ue b → U0 b ∨ base ≤ b) (hdom : ∀ b bt, e0.ρ b = some bt → U0 b)
    (hfree : free U0 base (base + D.rows)) (hx : Ext e0 e) (hf : Frm e0 m0 e s.mem) (hr : rdD D base s = some x) (nx : Nat) :
    ∃ e', e'.w = e.w ∧ Ext e0 e' ∧ Frm e0 m0 e' (mkD D base nx x).mem ∧ Fit C n (taken U0 base (base + D.rows)) e' (mkD D base nx x) a := by
  unfold rdD at hr
  split at hr
  · rename_i x1 x2 x3 hb h1 h2 h3
    cases hr
    simp only [Bool.and_eq_true, belowSD] at hb
    obtain ⟨⟨⟨hb1, hb2⟩, hb3⟩, hnd⟩ := hb
    rw [catL_eq] at hnd
    obtain ⟨a1, l1⟩ := rdSl_rows D.sl s x1 h1
    obtain ⟨a2, l2⟩ := rdVr_rows D.vr _ s x2 h2
    generalize hrows : rdRowsSl D.sl s ++ rdRowsVr D.vr s = rows at *
    have hrl : rows.length = D.rows := by rw [← hrows]; simp [SD.rows, l1, l2]
    have hrel : All2 (RowRel s.mem) rows (rowsSlX D.sl x1 ++ rowsVrX D.vr x2) := by rw [← hrows]; exact a1.append a2
    -- the names
    let ρ' : Nat → Option BT := fun b => if base ≤ b ∧ b < base + D.rows then (match rows[b - base]? with | some (_, some c) => e.ρ c | some (t, none) => some (.nilslab t) | none => none)
      else open Classical in if b < base ∨ e0.ρ b ≠ none then e.ρ b else none
    let e' : Env := ⟨ρ', e.w, e.imm⟩
    have hρrow : ∀ (i : Nat) (t : Ty) (o : Option Nat), rows[i]? = some (t, o) → ρ' (base + i) = match o with | some b => e.ρ b | none => some (.nilslab t) := by
      intro i t o hi
      have hlt : i < rows.length := (List.getElem?_eq_some_iff.1 hi).1
      show (if _ then _ else _) = _
      rw [if_pos (by omega), Nat.add_sub_cancel_left, hi]
      cases o <;> rfl
    have hρold : ∀ b, b < base → ρ' b = e.ρ b := by
      intro b hb
      show (if _ then _ else _) = _
      rw [if_neg (by omega), if_pos (.inl hb)]
    have hren : Ren e e' base base rows := ⟨rfl, rfl, hρold, hρrow⟩
    have hrenS : Ren e e' base base (rdRowsSl D.sl s) := by rw [← hrows] at hren; exact hren.left
    have hrenV : Ren e e' base (base + rowsSl D.sl) (rdRowsVr D.vr s) := by rw [← hrows] at hren; have := hren.right; rwa [l1] at this
    have hmem : ∀ b, (mkD D base nx (x1, x2, x3)).mem b = mkMem D base (x1, x2, x3) b := fun _ => rfl
    -- what lies where
    have hwhat : ∀ b, mkMem D base (x1, x2, x3) b = .none ∨
        (base ≤ b ∧ ∃ t o, rows[b - base]? = some (t, o) ∧ RowRel s.mem (t, o) (mkMem D base (x1, x2, x3) b)) ∨
        (b < base ∧ RM e' b (mkMem D base (x1, x2, x3) b) ∧ ((∃ t v, s.mem b = .var t v) ∨ ∃ k v l, s.mem b = .map k v l)) := by
      intro b
      unfold mkMem
      cases hbb : Nat.ble base b with
      | true =>
        have hle := Nat.le_of_ble_eq_true hbb
        simp only [catL_eq]
        rcases nthB_get (rowsSlX D.sl x1 ++ rowsVrX D.vr x2) (b - base) with hn | hn
        · exact .inl hn
        · refine .inr (.inl ⟨hle, ?_⟩)
          have hlt : b - base < rows.length := by rw [hrel.length]; exact (List.getElem?_eq_some_iff.1 hn).1
          obtain ⟨y, hy, hr⟩ := hrel.get (b - base) _ (List.getElem?_eq_getElem hlt)
          rw [hn] at hy; cases hy
          exact ⟨_, _, List.getElem?_eq_getElem hlt, hr⟩
      | false =>
        simp only
        rcases mkVr_RM h.mem D.vr x2 _ h2 hb2 hrenV b with hv | ⟨hv1, hv2, hv3⟩
        · rw [hv]
          simp only
          rcases mkMp_RM h.mem (e' := e') rfl rfl hρold D.mp x3 h3 hb3 b with hp | ⟨hp1, hp2, hp3⟩
          · exact .inl hp
          · exact .inr (.inr ⟨hp1, hp2, .inr hp3⟩)
        · refine .inr (.inr ⟨hv1, ?_, .inl hv3⟩)
          cases hmk : mkVr D.vr (base + rowsSl D.sl) x2 b with
          | none =>
            simp only
            rcases mkMp_RM h.mem (e' := e') rfl rfl hρold D.mp x3 h3 hb3 b with hp | ⟨hp1, hp2, hp3⟩
            · rw [hp]; trivial
            · exact hp2
          | _ => simp only; rw [hmk] at hv2; exact hv2
    -- where a live block comes from
    have hsrc : ∀ b bt k, live (mkMem D base (x1, x2, x3) b) → ρ' b = some bt → bt.base = some k → ∃ c, live (s.mem c) ∧ e.ρ c = some bt ∧
        ((base ≤ b ∧ (∃ t, rows[b - base]? = some (t, some c)) ∧ ∃ t xs, s.mem c = .slab t xs) ∨ (b = c ∧ b < base ∧ ((∃ t v, s.mem b = .var t v) ∨ ∃ k v l, s.mem b = .map k v l))) := by
      intro b bt k hl hb hk
      rcases hwhat b with hn | ⟨hle, t, o, hro, hrr⟩ | ⟨hlt, _, hvm⟩
      · rw [hn] at hl; exact hl.elim
      · have hb' := hρrow (b - base) t o hro
        rw [show base + (b - base) = b by omega] at hb'
        cases o with
        | none => rw [hb'] at hb; cases hb; simp [BT.base] at hk
        | some c =>
          obtain ⟨xs, hm1, _⟩ := hrr
          exact ⟨c, by rw [hm1]; trivial, by rw [hb'] at hb; exact hb, .inl ⟨hle, ⟨t, hro⟩, t, xs, hm1⟩⟩
      · refine ⟨b, ?_, by rw [hρold b hlt] at hb; exact hb, .inr ⟨rfl, hlt, hvm⟩⟩
        rcases hvm with ⟨t, v, hv⟩ | ⟨k, v, l, hv⟩ <;> (rw [hv]; trivial)
    have hown : ∀ k, owns e' (mkMem D base (x1, x2, x3)) k → owns e s.mem k := by
      rintro k ⟨b, bt, hl, hb, hk⟩
      obtain ⟨c, g1, g2, _⟩ := hsrc b bt k hl hb hk
      exact ⟨c, bt, g1, g2, hk⟩
    have hExt : Ext e0 e' := by
      refine ⟨fun b bt hb => ?_, hx.imm⟩
      have hu := hdom b bt hb
      show (if _ then _ else _) = _
      rw [if_neg (fun hlt => hfree b hlt.1 hlt.2 hu), if_pos (.inr (by rw [hb]; simp))]
      exact hx.ρ b bt hb
    refine ⟨e', rfl, hExt, ⟨hf.heap, hf.size, fun j hj => hf.own j (hown j hj), hf.imm⟩, h.defers, h.size, mkSl_RV h.mem h.slots D.sl x1 base h1 hb1 hrenS, ?_⟩
    refine ⟨h.mem.below, ?_, fun k hk => h.mem.own k (hown k hk), ?_, h.mem.immLt, h.mem.immI, ?_⟩
    · intro b
      rw [hmem]
      rcases hwhat b with hn | ⟨hle, t, o, hro, hrr⟩ | ⟨_, hrm, _⟩
      · rw [hn]; trivial
      · have hb' := hρrow (b - base) t o hro
        rw [show base + (b - base) = b by omega] at hb'
        cases o with
        | none =>
          have : mkMem D base (x1, x2, x3) b = .slab t [] := hrr
          rw [this]
          exact ⟨by simp, .inl ⟨hb', rfl⟩⟩
        | some c =>
          obtain ⟨xs, hm1, hm2⟩ := hrr
          rw [hm2]
          have hbl := h.mem.blocks c
          rw [hm1] at hbl
          obtain ⟨g1, g2⟩ := hbl
          refine ⟨g1, ?_⟩
          rcases g2 with ⟨g3, g4⟩ | ⟨k', cap, cs, el, css, rest, g3, g4⟩
          · exact .inl ⟨by rw [show e'.ρ b = ρ' b from rfl, hb']; exact g3, g4⟩
          · exact .inr ⟨k', cap, cs, el, css, rest, by rw [show e'.ρ b = ρ' b from rfl, hb']; exact g3, g4⟩
      · exact hrm
    · intro b b' bt bt' k hl hl' hb hb' hk hk'
      obtain ⟨c, g1, g2, g3⟩ := hsrc b bt k hl hb hk
      obtain ⟨c', g1', g2', g3'⟩ := hsrc b' bt' k hl' hb' hk'
      have hcc := h.mem.inj c c' bt bt' k g1 g1' g2 g2' hk hk'
      subst hcc
      rcases g3 with ⟨q1, ⟨t, q2⟩, t2, xs, q3⟩ | ⟨q1, q2, q3⟩
      · rcases g3' with ⟨r1, ⟨u, r2⟩, _⟩ | ⟨r1, r2, r3⟩
        · have := nodupN_get hnd q2 r2
          omega
        · subst r1
          rcases r3 with ⟨_, _, r3⟩ | ⟨_, _, _, r3⟩ <;> (rw [q3] at r3; cases r3)
      · rcases g3' with ⟨r1, _, u, xs, r3⟩ | ⟨r1, _⟩
        · subst q1
          rcases q3 with ⟨_, _, q3⟩ | ⟨_, _, _, q3⟩ <;> (rw [q3] at r3; cases r3)
        · rw [q1, r1]
    · intro b bt hb
      have hb : ρ' b = some bt := hb
      by_cases hlt : base ≤ b ∧ b < base + D.rows
      · exact .inr hlt
      · left
        have : (open Classical in if b < base ∨ e0.ρ b ≠ none then e.ρ b else none) = some bt := by
          have h2 : ρ' b = (open Classical in if b < base ∨ e0.ρ b ≠ none then e.ρ b else none) := if_neg hlt
          rw [h2] at hb; exact hb
        split at this
        · rename_i hc
          rcases hc with hc | hc
          · exact (hUe b (h.mem.nx b bt this)).elim id (fun h => by omega)
          · cases h0 : e0.ρ b with
            | none => exact absurd h0 hc
            | some bt0 => exact hdom b bt0 h0
        · cases this
  · cases hr

/-! ### Rows let go -/
theorem frz_ok {C : Ctx} {n : Nat} {U : Nat → Prop} {e : Env} {s : AS} {a : Act} (h : Fit C n U e s a) (b : Nat) :
    ∃ e', e'.w = e.w ∧ Ext e e' ∧ Frm e s.mem e' (frz b s).mem ∧ Fit C n U e' (frz b s) a := by
  unfold frz
  cases hb : s.mem b with
  | slab t xs =>
    obtain ⟨im, k1, k2, k3, k4⟩ := h.mem.kill1 b
    have key : ∀ cs, RC e (.sl b) cs → Rd e.w im (.list t) xs cs := fun cs hc =>
      toPure_RC h.mem (fun k hk => (k2.imm k hk).1) (.sl b) (.list t) xs cs (by simp [toPure, hb, asListOf, cast?_self]) hc (fun b' bt k hb' => by cases hb'; exact k3 bt k)
    have hlive : ∀ j, live ((fun j => match Nat.beq j b with | true => AB.dead | false => sbAB b t xs (s.mem j)) j) → live ((Mem.put s.mem b .dead) j) := by
      intro j hl
      by_cases hj : j = b
      · subst hj; simp only [Nat.beq_refl] at hl; exact hl.elim
      · have hbe : Nat.beq j b = false := by
          cases h0 : Nat.beq j b with
          | false => rfl
          | true => exact absurd (Nat.eq_of_beq_eq_true h0) hj
        simp only [hbe] at hl
        rw [Mem.put_ne _ _ hj]
        cases hm : s.mem j <;> rw [hm] at hl <;> first | trivial | exact hl.elim
    have hown : ∀ k, owns { e with imm := im } (fun j => match Nat.beq j b with | true => AB.dead | false => sbAB b t xs (s.mem j)) k → owns { e with imm := im } (Mem.put s.mem b .dead) k := by
      rintro k ⟨c, bt, hl, h1, h2⟩
      exact ⟨c, bt, hlive c hl, h1, h2⟩
    refine ⟨{ e with imm := im }, rfl, k2, Frm.kill (fun j hj => kill_owns (v := .sl b) (hown j hj)) k4, h.defers, h.size, ?_, ?_⟩
    · intro i
      have hi := h.slots i
      show RV _ (sbAV b t xs (s.slots i)) _
      cases hv : s.slots i with
      | sl c =>
        rw [hv] at hi
        simp only [sbAV]
        cases hcb : Nat.beq c b with
        | false => exact hi.ext k2
        | true =>
          have := Nat.eq_of_beq_eq_true hcb; subst this
          obtain ⟨cs, h1, h2⟩ := hi
          exact ⟨cs, h1, key cs h2⟩
      | _ => rw [hv] at hi; exact hi.ext k2
    · refine ⟨k1.below, ?_, fun k hk => k1.own k (hown k hk), ?_, k1.immLt, k1.immI, k1.nx⟩
      · intro j
        show RM _ j (match Nat.beq j b with | true => AB.dead | false => sbAB b t xs (s.mem j))
        cases hj : Nat.beq j b with
        | true => trivial
        | false =>
          have hne : j ≠ b := by rintro rfl; rw [Nat.beq_refl] at hj; cases hj
          have hbl := k1.blocks j
          rw [Mem.put_ne _ _ hne] at hbl
          have hold := h.mem.blocks j
          simp only
          cases hm : s.mem j with
          | var u v =>
            rw [hm] at hbl hold
            cases v with
            | sl c =>
              simp only [sbAB]
              cases hcb : Nat.beq c b with
              | false => exact hbl
              | true =>
                cases hu : Ty.eqb (.list t) u with
                | false => exact hbl
                | true =>
                  have := Nat.eq_of_beq_eq_true hcb; subst this
                  obtain ⟨_, k, cs, el, g1, g2, g3⟩ := hold
                  exact ⟨hu, k, cs, el, g1, g2, key _ g3⟩
            | _ => exact hbl
          | _ => rw [hm] at hbl; exact hbl
      · exact fun c c' bt bt' k hl hl' => k1.inj c c' bt bt' k (hlive c hl) (hlive c' hl')
  | _ => exact ⟨e, rfl, Ext.refl e, Frm.refl _ _, h⟩
theorem frz_nx (b : Nat) (s : AS) : (frz b s).nx = s.nx := by unfold frz; split <;> rfl
def FrzOK (f : AS → AS) : Prop := ∀ {C : Ctx} {n : Nat} {U : Nat → Prop} {e : Env} {s : AS} {a : Act}, Fit C n U e s a → ∃ e', e'.w = e.w ∧ Ext e e' ∧ Frm e s.mem e' (f s).mem ∧ Fit C n U e' (f s) a
theorem frzAt_ok (sh : Sh) (v : AV) : FrzOK (frzAt sh v) := by
  intro C n U e s a h
  unfold frzAt
  split
  · exact frz_ok h _
  · exact ⟨e, rfl, Ext.refl e, Frm.refl _ _, h⟩
theorem frz_trans {C : Ctx} {n : Nat} {U : Nat → Prop} {e : Env} {s : AS} {a : Act} {f g : AS → AS} (hf : ∃ e', e'.w = e.w ∧ Ext e e' ∧ Frm e s.mem e' (f s).mem ∧ Fit C n U e' (f s) a) (hg : FrzOK g) :
    ∃ e', e'.w = e.w ∧ Ext e e' ∧ Frm e s.mem e' (g (f s)).mem ∧ Fit C n U e' (g (f s)) a := by
  obtain ⟨e1, h1, h2, h3, h4⟩ := hf
  obtain ⟨e2, g1, g2, g3, g4⟩ := hg h4
  exact ⟨e2, g1.trans h1, h2.trans g2, h3.trans g3, g4⟩
theorem frzSl_ok (l : List (Nat × Sh)) : FrzOK (frzSl l) := by
  induction l with
  | nil => intro C n U e s a h; exact ⟨_, rfl, Ext.refl _, Frm.refl _ _, h⟩
  | cons p r ih =>
    intro C n U e s a h
    exact frz_trans (f := fun s => frzAt p.2 (s.slots p.1) s) (frzAt_ok p.2 (s.slots p.1) h) ih
theorem frzVr_ok (l : List (Nat × Ty × Sh)) : FrzOK (frzVr l) := by
  induction l with
  | nil => intro C n U e s a h; exact ⟨_, rfl, Ext.refl _, Frm.refl _ _, h⟩
  | cons p r ih =>
    intro C n U e s a h
    refine frz_trans (f := fun s => match s.mem p.1 with | .var _ v => frzAt p.2.2 v s | _ => s) ?_ ih
    cases hm : s.mem p.1 with
    | var u v => simp only [hm]; exact frzAt_ok p.2.2 v h
    | _ => simp only [hm]; exact ⟨_, rfl, Ext.refl _, Frm.refl _ _, h⟩
theorem frzD_ok (D : SD) : FrzOK (frzD D) := fun h => frz_trans (f := frzSl D.sl) (frzSl_ok D.sl h) (frzVr_ok D.vr)
theorem refitF {C : Ctx} {n : Nat} {U0 Ue : Nat → Prop} {e0 e : Env} {m0 : Mem} {s : AS} {a : Act} {D : SD} {base : Nat} {x : D.den} (h : Fit C n Ue e s a) (hUe : ∀ b, Ue b → U0 b ∨ base ≤ b) (hdom : ∀ b bt, e0.ρ b = some bt → U0 b)
    (hfree : free U0 base (base + D.rows)) (hx : Ext e0 e) (hf : Frm e0 m0 e s.mem) (hr : rdF D base s = some x) (nx : Nat) :
    ∃ e', e'.w = e.w ∧ Ext e0 e' ∧ Frm e0 m0 e' (mkD D base nx x).mem ∧ Fit C n (taken U0 base (base + D.rows)) e' (mkD D base nx x) a := by
  obtain ⟨e1, h1, h2, h3, h4⟩ := frzD_ok D h
  obtain ⟨e2, g1, g2, g3, g4⟩ := refit h4 hUe hdom hfree (hx.trans h2) (hf.trans h3) hr nx
  exact ⟨e2, g1.trans h1, g2, g3, g4⟩

/-! ### Ways out -/
theorem contE_some {R : Type} {y : R} {K : AExit → AS → Option R} {base nx : Nat} : ∀ (l : List (XK × SD)) (z : denE l), contE l base nx z K = some y → ∃ r s, K r s = some y ∧ r ≠ .normal ∧ s.nx = nx ∧
    ∀ e s', rdE l base e s' = some z → e = r ∧ ∃ D, ∃ x : SD.den D, (∃ k, (k, D) ∈ l) ∧ s = mkD D base nx x ∧ rdF D base s' = some x
  | [], z, h => by simp [contE] at h
  | [(k, D)], z, h => by
    refine ⟨_, _, h, by cases k <;> simp [XK.to], rfl, fun e s' hr => ?_⟩
    simp only [rdE] at hr
    split at hr
    · rename_i hk
      refine ⟨?_, D, z, ⟨k, by simp⟩, rfl, hr⟩
      cases k <;> cases e <;> simp [XK.is, XK.to] at *
      exact hk.symm
    · cases hr
  | (k, D) :: e0 :: r, z, h => by
    cases z with
    | inl x =>
      simp only [contE, Sum.elim_inl] at h
      refine ⟨_, _, h, by cases k <;> simp [XK.to], rfl, fun e s' hr => ?_⟩
      simp only [rdE] at hr
      split at hr
      · rename_i x' hx
        cases hr
        split at hx
        · rename_i hk
          refine ⟨?_, D, x, ⟨k, by simp⟩, rfl, hx⟩
          cases k <;> cases e <;> simp [XK.is, XK.to] at *
          exact hk.symm
        · cases hx
      · split at hr <;> cases hr
    | inr z =>
      simp only [contE, Sum.elim_inr] at h
      obtain ⟨r1, s1, h1, h2, h2', h3⟩ := contE_some (e0 :: r) z h
      refine ⟨r1, s1, h1, h2, h2', fun e s' hr => ?_⟩
      simp only [rdE] at hr
      split at hr
      · cases hr
      · split at hr
        · rename_i z' hz
          cases hr
          obtain ⟨g1, D', x, ⟨k', g2⟩, g3⟩ := h3 e s' hz
          exact ⟨g1, D', x, ⟨k', by simp [g2]⟩, g3⟩
        · cases hr
theorem least {p : Nat → Prop} (h : ∃ n, p n) : ∃ n, p n ∧ ∀ m, p m → n ≤ m := by
  obtain ⟨n, hn⟩ := h
  induction n using Nat.strongRecOn with
  | _ n ih =>
    by_cases hm : ∃ m, m < n ∧ p m
    · obtain ⟨m, h1, h2⟩ := hm; exact ih m h1 h2
    · exact ⟨n, hn, fun m hm' => Nat.le_of_not_lt fun h => hm ⟨m, h, hm'⟩⟩
open Classical in
theorem lpH_ev {P : Program} {C : Ctx} {n : Nat} {L : List (Nat × LD)} {lid : Nat} {body : Code} {ev : (R : Type) → AS → (AExit → AS → Option R) → Option R} (hbody : EvOK P C n body ev) : EvOK P C n (.loop body) (lpH L lid ev) := by
  intro R s K y h
  unfold lpH at h
  split at h
  · cases h
  · rename_i d hd
    split at h
    · rename_i x hroom hx
      simp only [roomy, Bool.and_eq_true, List.all_eq_true] at hroom
      obtain ⟨hroom1, hroom2⟩ := hroom
      have hroom1 := Nat.le_of_ble_eq_true hroom1
      cases hl : lfp (fun x => ev (d.hd.den ⊕ denE d.outs) (mkD d.hd s.nx (s.nx + d.hd.rows) x) (roundK d s.nx)) x with
      | none => rw [hl] at h; cases h
      | some z =>
        rw [hl] at h
        simp only [Option.bind_some] at h
        obtain ⟨n0, hn0⟩ := lfp_some.1 hl
        obtain ⟨r, s1, hk, hrn, hnx, hout⟩ := contE_some d.outs z h
        refine ⟨r, s1, ⟨?_, ?_⟩, hk⟩
        · omega
        · intro U e a Q hu hf hq
          generalize hfdef : (fun x => ev (d.hd.den ⊕ denE d.outs) (mkD d.hd s.nx (s.nx + d.hd.rows) x) (roundK d s.nx)) = f at *
          have hdom : ∀ b bt, e.ρ b = some bt → U b := hf.mem.nx
          have hfreeH : free U s.nx (s.nx + d.hd.rows) := free_left hu (by omega)
          let J : Nat → Act → World → Prop := fun k a' w' => ∃ x' e', iter f k x' = some z ∧ e'.w = w' ∧ Ext e e' ∧ Frm e s.mem e' (mkD d.hd s.nx (s.nx + d.hd.rows) x').mem ∧ Fit C n (taken U s.nx (s.nx + d.hd.rows)) e' (mkD d.hd s.nx (s.nx + d.hd.rows) x') a'
          let μ : Act → World → Nat := fun a' w' => if h : ∃ k, J k a' w' then (least h).choose else 0
          have hμ : ∀ {k a' w'}, J k a' w' → μ a' w' ≤ k := by
            intro k a' w' hj
            have hex : ∃ k, J k a' w' := ⟨k, hj⟩
            show (if h : _ then _ else _) ≤ k
            rw [dif_pos hex]
            exact (least hex).choose_spec.2 _ hj
          have hμ2 : ∀ {a' w'}, (∃ k, J k a' w') → J (μ a' w') a' w' := by
            intro a' w' hex
            show J (if h : _ then _ else _) a' w'
            rw [dif_pos hex]
            exact (least hex).choose_spec.1
          refine wp_loop (fun a' w' => ∃ k, J k a' w') μ ?_ ?_
          · obtain ⟨e', g1, g2, g3, g4⟩ := refitF hf (fun b hb => .inl hb) hdom hfreeH (Ext.refl e) (Frm.refl e s.mem) hx (s.nx + d.hd.rows)
            exact ⟨n0, x, e', hn0, g1, g2, g3, g4⟩
          · intro a' w' hex
            have hj := hμ2 hex
            generalize hk' : μ a' w' = k at hj
            obtain ⟨x', e', hit, rfl, hx1, hfr1, hfit⟩ := hj
            cases k with
            | zero => simp [iter] at hit
            | succ k =>
              simp only [iter] at hit
              cases hfx : f x' with
              | none => rw [hfx] at hit; cases hit
              | some res =>
                rw [hfx] at hit
                have hev : ev (d.hd.den ⊕ denE d.outs) (mkD d.hd s.nx (s.nx + d.hd.rows) x') (roundK d s.nx) = some res := by rw [← hfx, ← hfdef]
                obtain ⟨r', s', ht, hrk⟩ := hbody _ _ _ _ hev
                unfold roundK at hrk
                split at hrk
                · cases hrk
                · rename_i hble
                  have hble := Nat.le_of_ble_eq_true hble
                  have hle1 : s.nx + d.hd.rows ≤ s'.nx := ht.1
                  have hfree2 : free (taken U s.nx (s.nx + d.hd.rows)) (mkD d.hd s.nx (s.nx + d.hd.rows) x').nx s'.nx := by
                    refine free_right (U := U) (a := s.nx) ?_ (by omega)
                    exact free_left hu (by omega)
                  refine ht.2 _ e' a' _ hfree2 hfit fun e2 a2 q1 q2 q3 => ?_
                  have hUe : ∀ b, taken (taken U s.nx (s.nx + d.hd.rows)) (mkD d.hd s.nx (s.nx + d.hd.rows) x').nx s'.nx b → U b ∨ s.nx ≤ b := by
                    rintro b ((hb | hb) | hb)
                    · exact .inl hb
                    · exact .inr hb.1
                    · have : s.nx + d.hd.rows ≤ b := hb.1
                      exact .inr (by omega)
                  have hx2 := hx1.trans q2
                  have hfr2 := hfr1.trans q3
                  -- a way out
                  have hgo : ∀ z', rdE d.outs s.nx r' s' = some z' → iter f (k + 1) x' = some z → res = .inr z' → Q r'.toExit a2 e2.w := by
                    intro z' hz' _ hres
                    rw [hres] at hit
                    cases hit
                    obtain ⟨hr1, D, xo, ⟨kk, hmem⟩, hs1, hrd⟩ := hout r' s' hz'
                    have hDr := Nat.le_of_ble_eq_true (hroom2 _ hmem)
                    obtain ⟨e3, p1, p2, p3, p4⟩ := refitF q1 hUe hdom (free_left hu (by simp only at hDr; omega)) hx2 hfr2 hrd (s.nx + d.room)
                    rw [hr1, ← p1]
                    refine hq e3 a2 ?_ p2 (by rw [hs1]; exact p3)
                    rw [hs1]
                    refine p4.widen fun b hb => hb.imp id fun h => ⟨h.1, ?_⟩
                    have : (mkD D s.nx (s.nx + d.room) xo).nx = s.nx + d.room := rfl
                    simp only at hDr
                    omega
                  cases r' with
                  | normal =>
                    simp only at hrk
                    split at hrk
                    · rename_i x2 hx2'
                      cases hrk
                      simp only at hit
                      obtain ⟨e3, p1, p2, p3, p4⟩ := refitF q1 hUe hdom hfreeH hx2 hfr2 hx2' (s.nx + d.hd.rows)
                      have hJ : J k a2 e2.w := ⟨x2, e3, hit, p1, p2, p3, p4⟩
                      refine ⟨⟨k, hJ⟩, ?_⟩
                      have := hμ hJ
                      omega
                    · cases hrk
                  | exit id =>
                    simp only at hrk
                    split at hrk
                    · rename_i z' hz'
                      cases hrk
                      exact hgo z' hz' (by simp only [iter, hfx]; exact hit) rfl
                    · cases hrk
                  | ret =>
                    simp only at hrk
                    split at hrk
                    · rename_i z' hz'
                      cases hrk
                      exact hgo z' hz' (by simp only [iter, hfx]; exact hit) rfl
                    · cases hrk
    · cases h
theorem lpH_ok {P : Program} {C : Ctx} {n : Nat} {E : EE} {L : List (Nat × LD)} (hE : E.lp = lpH L) : LpOK P C n E := by
  intro body hbody
  rw [hE]
  exact lpH_ev hbody
/-- A loop of which several lines may tell: the first one that fits. -/
noncomputable def lpM : List (Nat × LD) → Nat → ((R : Type) → AS → (AExit → AS → Option R) → Option R) → (R : Type) → AS → (AExit → AS → Option R) → Option R
  | [], _, _, _, _, _ => none
  | (i, d) :: r, id, ev, R, s, K => match Nat.beq id i with
    | false => lpM r id ev R s K
    | true => match rdF d.hd s.nx s with
      | some _ => lpH [(i, d)] id ev R s K
      | none => lpM r id ev R s K
theorem lpM_ev {P : Program} {C : Ctx} {n : Nat} {id : Nat} {body : Code} {ev : (R : Type) → AS → (AExit → AS → Option R) → Option R} (hbody : EvOK P C n body ev) : ∀ L : List (Nat × LD), EvOK P C n (.loop body) (lpM L id ev)
  | [] => fun R s K y h => by cases h
  | (i, d) :: r => fun R s K y h => by
    unfold lpM at h
    split at h
    · exact lpM_ev hbody r R s K y h
    · split at h
      · exact lpH_ev hbody R s K y h
      · exact lpM_ev hbody r R s K y h
theorem lpM_ok {P : Program} {C : Ctx} {n : Nat} {E : EE} {L : List (Nat × LD)} (hE : E.lp = lpM L) : LpOK P C n E := by
  intro body hbody
  rw [hE]
  exact lpM_ev hbody L
/-- Calls gone into, each with its own loops' lines. -/
theorem inlG_ok {P : Program} {C : Ctx} {Es : Nat → EE} {B : Bodies} (hB : BodiesOK P B) (hE : ∀ f, EOK P C (Es f)) (hlp : ∀ f n, LpOK P C n (Es f)) (hdraw : P.follows .mixedOrders = true) : InlOK P C (fun R f vs m nx K => inlH (Es f) B R f vs m nx K) :=
  fun R f vs m nx K y h => inlH_ok hB (hE f) (hlp f) hdraw R f vs m nx K y h
end Go.Co
