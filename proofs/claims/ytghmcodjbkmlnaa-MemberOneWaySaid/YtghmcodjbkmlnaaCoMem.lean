/-
  Memory: how what fits goes on fitting: new blocks, stores, rows let go, calls that leave old memory alone; plain data out of rows.
  Own text, for the claims about coterie.
-/
import Derived.Test.YtghmcodjbkmlnaaCoTab
namespace Go.Co
open Go.RowKit

theorem live_of {m : Mem} {b : Nat} {x : AB} (h : m b = x) (hl : live x) : live (m b) := by rw [h]; exact hl
theorem Mem.put_same (m : Mem) (b : Nat) (x : AB) : (m.put b x) b = x := by simp [Mem.put]
theorem Mem.put_ne (m : Mem) {b i : Nat} (x : AB) (h : i ≠ b) : (m.put b x) i = m i := by
  have : Nat.beq i b = false := by
    cases hb : Nat.beq i b with
    | false => rfl
    | true => exact absurd (Nat.eq_of_beq_eq_true hb) h
  simp [Mem.put, this]

/-- A live block lies somewhere, or is the nil row. -/
theorem RM.some {E : Env} {b : Nat} {x : AB} (h : RM E b x) (hl : live x) : ∃ bt, E.ρ b = some bt := by
  cases x with
  | none => exact hl.elim
  | dead => exact hl.elim
  | var t v => obtain ⟨_, k, cs, el, hb, _⟩ := h; exact ⟨_, hb⟩
  | slab t xs => obtain ⟨_, h⟩ := h; rcases h with ⟨hb, _⟩ | ⟨k, cap, cs, el, css, rest, hb, _⟩ <;> exact ⟨_, hb⟩
  | map k v m => obtain ⟨base, es, clock, hb, _⟩ := h; exact ⟨_, hb⟩
theorem RE.ext {E E' : Env} (h : Ext E E') {k v : Ty} {e : k.den × v.den} {m : MapEntry} (hr : RE E k v e m) : RE E' k v e m := by
  obtain ⟨⟨c, h1, h2⟩, d, h3, h4⟩ := hr
  exact ⟨⟨c, h1, h2.ext h⟩, d, h3, h4.ext h⟩
/-- A block that isn't touched. -/
theorem RM.frame {E E' : Env} (h : Ext E E') {b : Nat} {x : AB} (hr : RM E b x) (hk : ∀ bt k, E.ρ b = Option.some bt → bt.base = Option.some k → live x → E'.w.heap[k]? = E.w.heap[k]?) : RM E' b x := by
  cases x with
  | none => trivial
  | dead => trivial
  | var t v =>
    obtain ⟨hh, k, cs, el, hb, hc, hr⟩ := hr
    exact ⟨hh, k, cs, el, h.ρ _ _ hb, by rw [hk _ _ hb rfl trivial]; exact hc, hr.ext h⟩
  | slab t xs =>
    obtain ⟨ht, hr⟩ := hr
    refine ⟨ht, ?_⟩
    rcases hr with ⟨hb, he⟩ | ⟨k, cap, cs, el, css, rest, hb, hc, h1, h2, h3, h4, h5⟩
    · exact .inl ⟨h.ρ _ _ hb, he⟩
    · exact .inr ⟨k, cap, cs, el, css, rest, h.ρ _ _ hb, by rw [hk _ _ hb rfl trivial]; exact hc, h1, h2, h3, h4.mono fun _ _ hr => Rd.ext h hr, h5⟩
  | map k v m =>
    obtain ⟨base, es, clock, hb, hc, h1, h2, h3⟩ := hr
    exact ⟨base, es, clock, h.ρ _ _ hb, by rw [hk _ _ hb rfl trivial]; exact hc, h1.mono fun _ _ hr => hr.ext h, h2, h3⟩

section
variable {C : Ctx} {E : Env} {m : Mem} {U : Nat → Prop}

/-- A world in which nothing of old has turned. -/
theorem MR.grow (h : MR C E m U) {w' : World} (hw : Blw E.w.heap.size E.w w') {im' : Nat → Prop} (h1 : ∀ k, E.imm k → im' k) (h2 : ∀ k, im' k → k < w'.heap.size) (h3 : ∀ k, im' k → k < E.w.heap.size → E.imm k) :
    MR C { E with w := w', imm := im' } m U ∧ Ext E { E with w := w', imm := im' } := by
  have hx : Ext E { E with w := w', imm := im' } := ⟨fun _ _ h => h, fun k hk => ⟨h1 k hk, hw.block k (h.immLt k hk)⟩⟩
  refine ⟨⟨?_, ?_, ?_, h.inj, h2, ?_, h.nx⟩, hx⟩
  · refine h.below.trans (hw.mono h.below.size)
  · intro b
    refine (h.blocks b).frame hx fun bt k hb hk hl => hw.block k ?_
    exact (h.own k ⟨b, bt, hl, hb, hk⟩).1
  · rintro k ⟨b, bt, hl, hb, hk⟩
    obtain ⟨o1, o2, o3⟩ := h.own k ⟨b, bt, hl, hb, hk⟩
    exact ⟨Nat.lt_of_lt_of_le o1 hw.size, o2, fun hi => o3 (h3 k hi o1)⟩
  · intro k hk hlt
    exact h.immI k (h3 k hk (Nat.lt_of_lt_of_le hlt h.below.size)) hlt
theorem MR.grow' (h : MR C E m U) {w' : World} (hw : Blw E.w.heap.size E.w w') : MR C { E with w := w' } m U ∧ Ext E { E with w := w' } :=
  h.grow hw (im' := E.imm) (fun _ h => h) (fun k hk => Nat.lt_of_lt_of_le (h.immLt k hk) hw.size) (fun _ h _ => h)

theorem MR.fresh (h : MR C E m U) {nx : Nat} (hN : ¬ U nx) : E.ρ nx = none := by
  cases hb : E.ρ nx with
  | none => rfl
  | some bt => exact absurd (h.nx nx bt hb) hN

/-- A name more. -/
def Env.name (E : Env) (b : Nat) (bt : BT) : Env := { E with ρ := fun i => if i = b then Option.some bt else E.ρ i }
theorem Ext.name (h : MR C E m U) {nx : Nat} (hN : ¬ U nx) (bt : BT) : Ext E (E.name nx bt) :=
  ⟨fun b bt' hb => by
    have : b ≠ nx := by rintro rfl; rw [h.fresh hN] at hb; cases hb
    simp [Env.name, this, hb], fun _ h => ⟨h, rfl⟩⟩
/-- A live block isn't frozen. -/
theorem RM.unfrozen {E : Env} {b k : Nat} {x : AB} {bt : BT} (h : RM E b x) (hl : live x) (hb : E.ρ b = Option.some bt) (hk : bt.base = Option.some k) (o : Nat) (sp : Option Nat) : E.w.frozen? ⟨k, o, sp⟩ = false := by
  cases x with
  | none => exact hl.elim
  | dead => exact hl.elim
  | var t v =>
    obtain ⟨_, k', cs, el, h1, h2, _⟩ := h
    rw [hb] at h1; cases h1; cases hk
    simp [World.frozen?, h2]
  | slab t xs =>
    obtain ⟨_, h⟩ := h
    rcases h with ⟨h1, _⟩ | ⟨k', cap, cs, el, css, rest, h1, h2, _⟩
    · rw [hb] at h1; cases h1; cases hk
    · rw [hb] at h1; cases h1; cases hk
      simp [World.frozen?, h2]
  | map kt vt m =>
    obtain ⟨base, es, clock, h1, h2, _⟩ := h
    rw [hb] at h1; cases h1; cases hk
    simp [World.frozen?, h2]
theorem frozen_same {w w' : World} {a : Addr} (h : w'.heap[a.block]? = w.heap[a.block]?) : w'.frozen? a = w.frozen? a := by simp [World.frozen?, h]
/-- A new block under a new name. -/
theorem MR.alloc (h : MR C E m U) {nx : Nat} (hN : ¬ U nx) (o : Obj) (bt : BT) (hbt : bt.base = Option.some E.w.heap.size) (y : AB) (hy : RM { (E.name nx bt) with w := E.w.alloc o } nx y) (hly : live y := by trivial) :
    MR C { (E.name nx bt) with w := E.w.alloc o } (m.put nx y) (fun b => U b ∨ b = nx) ∧ Ext E { (E.name nx bt) with w := E.w.alloc o } := by
  have hx : Ext E { (E.name nx bt) with w := E.w.alloc o } :=
    ⟨(Ext.name h hN bt).ρ, fun k hk => ⟨hk, Below.heap_alloc _ _ _ (h.immLt k hk)⟩⟩
  have hname : ∀ b, b ≠ nx → (E.name nx bt).ρ b = E.ρ b := fun b hb => by simp [Env.name, hb]
  have hnew : (E.name nx bt).ρ nx = Option.some bt := by simp [Env.name]
  have hown : ∀ b bt' k, live (m b) → E.ρ b = Option.some bt' → bt'.base = Option.some k → k < E.w.heap.size := fun b bt' k hl hb hk => (h.own k ⟨b, bt', hl, hb, hk⟩).1
  refine ⟨⟨?_, ?_, ?_, ?_, ?_, ?_, ?_⟩, hx⟩
  · refine ⟨h.below.toBelow.alloc h.below.size o, fun a => ?_⟩
    by_cases ha : a.block = E.w.heap.size
    · have h1 : (E.w.alloc o).frozen? a = false := by
        have := hy.unfrozen hly hnew hbt a.off a.spot
        rw [← ha] at this
        exact this
      have h2 : E.w.heap[a.block]? = none := by rw [ha]; simp
      rw [h1, ← h.below.fz a]
      simp [World.frozen?, h2]
    · have : (E.w.alloc o).heap[a.block]? = E.w.heap[a.block]? := by
        show (E.w.heap.push o)[a.block]? = _
        rw [Array.getElem?_push, if_neg ha]
      rw [frozen_same this]; exact h.below.fz a
  · intro b
    by_cases hb : b = nx
    · subst hb; rw [Mem.put_same]; exact hy
    · rw [Mem.put_ne _ _ hb]
      exact (h.blocks b).frame hx fun bt' k hb' hk hl => Below.heap_alloc _ _ _ (hown b bt' k hl hb' hk)
  · rintro k ⟨b, bt', hl', hb', hk⟩
    by_cases hb : b = nx
    · subst hb
      rw [show ({ (E.name b bt) with w := E.w.alloc o } : Env).ρ b = Option.some bt from hnew] at hb'
      cases hb'
      rw [hbt] at hk; cases hk
      exact ⟨by simp, h.below.size, fun hi => absurd (h.immLt _ hi) (Nat.lt_irrefl _)⟩
    · rw [Mem.put_ne _ _ hb] at hl'
      rw [show ({ (E.name nx bt) with w := E.w.alloc o } : Env).ρ b = E.ρ b from hname b hb] at hb'
      obtain ⟨o1, o2, o3⟩ := h.own k ⟨b, bt', hl', hb', hk⟩
      exact ⟨by simp; omega, o2, o3⟩
  · intro b b' bt1 bt2 k hl1 hl2 h1 h2 hk1 hk2
    by_cases hb : b = nx
    · by_cases hb2 : b' = nx
      · rw [hb, hb2]
      · exfalso
        subst hb
        rw [show ({ (E.name b bt) with w := E.w.alloc o } : Env).ρ b = Option.some bt from hnew] at h1
        cases h1; rw [hbt] at hk1; cases hk1
        rw [Mem.put_ne _ _ hb2] at hl2
        rw [show ({ (E.name b bt) with w := E.w.alloc o } : Env).ρ b' = E.ρ b' from hname b' hb2] at h2
        exact absurd (hown _ _ _ hl2 h2 hk2) (Nat.lt_irrefl _)
    · by_cases hb2 : b' = nx
      · exfalso
        subst hb2
        rw [show ({ (E.name b' bt) with w := E.w.alloc o } : Env).ρ b' = Option.some bt from hnew] at h2
        cases h2; rw [hbt] at hk2; cases hk2
        rw [Mem.put_ne _ _ hb] at hl1
        rw [show ({ (E.name b' bt) with w := E.w.alloc o } : Env).ρ b = E.ρ b from hname b hb] at h1
        exact absurd (hown _ _ _ hl1 h1 hk1) (Nat.lt_irrefl _)
      · rw [Mem.put_ne _ _ hb] at hl1
        rw [Mem.put_ne _ _ hb2] at hl2
        rw [show ({ (E.name nx bt) with w := E.w.alloc o } : Env).ρ b = E.ρ b from hname b hb] at h1
        rw [show ({ (E.name nx bt) with w := E.w.alloc o } : Env).ρ b' = E.ρ b' from hname b' hb2] at h2
        exact h.inj b b' bt1 bt2 k hl1 hl2 h1 h2 hk1 hk2
  · intro k hk
    have := h.immLt k hk
    simp; omega
  · exact h.immI
  · intro b bt' hb'
    by_cases hb : b = nx
    · exact .inr hb
    · rw [show ({ (E.name nx bt) with w := E.w.alloc o } : Env).ρ b = E.ρ b from hname b hb] at hb'
      exact .inl (h.nx b bt' hb')

/-- A block's content is another one. -/
theorem MR.write (h : MR C E m U) {b k : Nat} {bt : BT} (hl : live (m b)) (hb : E.ρ b = Option.some bt) (hk : bt.base = Option.some k) {w' : World}
    (hos : w'.os = E.w.os) (htape : w'.tape = E.w.tape) (hout : w'.output = E.w.output) (hsz : w'.heap.size = E.w.heap.size) (hoth : ∀ j, j ≠ k → w'.heap[j]? = E.w.heap[j]?)
    (y : AB) (hy : Ext E { E with w := w' } → RM { E with w := w' } b y) (hly : live y := by trivial) :
    MR C { E with w := w' } (m.put b y) U ∧ Ext E { E with w := w' } := by
  obtain ⟨ho1, ho2, ho3⟩ := h.own k ⟨b, bt, hl, hb, hk⟩
  have hx : Ext E { E with w := w' } := ⟨fun _ _ h => h, fun j hj => ⟨hj, hoth j (fun e => ho3 (e ▸ hj))⟩⟩
  have hlive : ∀ i, live ((m.put b y) i) → live (m i) := fun i hi => by
    by_cases hib : i = b
    · subst hib; exact hl
    · rwa [Mem.put_ne _ _ hib] at hi
  refine ⟨⟨?_, ?_, ?_, ?_, ?_, h.immI, h.nx⟩, hx⟩
  · refine h.below.trans ⟨⟨hos, htape, hout, by rw [hsz]; exact Nat.le_refl _, fun j hj => hoth j (by omega)⟩, fun a => ?_⟩
    by_cases ha : a.block = k
    · have h1 := (hy hx).unfrozen hly hb hk a.off a.spot
      have h2 := (h.blocks b).unfrozen hl hb hk a.off a.spot
      rw [← ha] at h1 h2
      exact h1.trans h2.symm
    · exact frozen_same (hoth _ ha)
  · intro i
    by_cases hib : i = b
    · subst hib; rw [Mem.put_same]; exact hy hx
    · rw [Mem.put_ne _ _ hib]
      refine (h.blocks i).frame hx fun bt' j hb' hj hli => hoth j fun e => hib ?_
      subst e
      exact h.inj i b bt' bt j hli hl hb' hb hj hk
  · rintro j ⟨i, bt', hli, hb', hj⟩
    have := h.own j ⟨i, bt', hlive i hli, hb', hj⟩
    exact ⟨by simpa [hsz] using this.1, this.2⟩
  · intro i i' b1 b2 j h1 h2
    exact h.inj i i' b1 b2 j (hlive i h1) (hlive i' h2)
  · intro j hj
    have := h.immLt j hj
    simpa [hsz] using this

/-- A row is let go: from now on its block is one of those that nobody writes. -/
theorem MR.kill1 (h : MR C E m U) (b : Nat) :
    ∃ im, MR C { E with imm := im } (m.put b .dead) U ∧ Ext E { E with imm := im } ∧ (∀ bt k, live (m b) → E.ρ b = Option.some bt → bt.base = Option.some k → im k) ∧ ∀ k, im k → E.imm k ∨ owns E m k := by
  refine ⟨fun k => E.imm k ∨ ∃ bt, live (m b) ∧ E.ρ b = Option.some bt ∧ bt.base = Option.some k, ?_, ?_, ?_, ?_⟩
  · have hx : Ext E { E with imm := fun k => E.imm k ∨ ∃ bt, live (m b) ∧ E.ρ b = Option.some bt ∧ bt.base = Option.some k } := ⟨fun _ _ h => h, fun k hk => ⟨.inl hk, rfl⟩⟩
    have hlive : ∀ i, live ((m.put b .dead) i) → i ≠ b ∧ live (m i) := fun i hi => by
      by_cases hib : i = b
      · subst hib; rw [Mem.put_same] at hi; exact hi.elim
      · rw [Mem.put_ne _ _ hib] at hi; exact ⟨hib, hi⟩
    refine ⟨h.below, ?_, ?_, ?_, ?_, ?_, h.nx⟩
    · intro i
      by_cases hib : i = b
      · subst hib; rw [Mem.put_same]; trivial
      · rw [Mem.put_ne _ _ hib]; exact (h.blocks i).frame hx fun _ _ _ _ _ => rfl
    · rintro k ⟨i, bt, hli, hb, hk⟩
      obtain ⟨hne, hli⟩ := hlive i hli
      obtain ⟨o1, o2, o3⟩ := h.own k ⟨i, bt, hli, hb, hk⟩
      refine ⟨o1, o2, ?_⟩
      rintro (hi | ⟨bt', hl', hb', hk'⟩)
      · exact o3 hi
      · exact hne (h.inj i b bt bt' k hli hl' hb hb' hk hk')
    · intro i i' b1 b2 j h1 h2
      exact h.inj i i' b1 b2 j (hlive i h1).2 (hlive i' h2).2
    · rintro k (hk | ⟨bt, hl, hb, hk⟩)
      · exact h.immLt k hk
      · exact (h.own k ⟨b, bt, hl, hb, hk⟩).1
    · rintro k (hk | ⟨bt, hl, hb, hk⟩) hlt
      · exact h.immI k hk hlt
      · have := (h.own k ⟨b, bt, hl, hb, hk⟩).2.1; omega
  · exact ⟨fun _ _ h => h, fun k hk => ⟨.inl hk, rfl⟩⟩
  · intro bt k hl hb hk
    exact .inr ⟨bt, hl, hb, hk⟩
  · rintro k (hk | ⟨bt, hl, hb, hk⟩)
    · exact .inl hk
    · exact .inr ⟨b, bt, hl, hb, hk⟩
end
theorem kill_live : ∀ (v : AV) (m : Mem) (b : Nat), live ((kill v m) b) → live (m b) := by
  intro v
  induction v with
  | sl b' =>
    intro m b hl
    by_cases hbb : b = b'
    · subst hbb; simp [kill, Mem.put_same] at hl; exact hl.elim
    · simpa [kill, Mem.put_ne _ _ hbb] using hl
  | agv s l ih => intro m b; exact ih m b
  | cons a l iha ihl => intro m b hl; exact iha m b (ihl _ b hl)
  | _ => intro m b hl; exact hl
theorem kill_owns {E : Env} {m : Mem} {v : AV} {j : Nat} (h : owns E (kill v m) j) : owns E m j := by
  obtain ⟨b, bt, hl, h⟩ := h; exact ⟨b, bt, kill_live v m b hl, h⟩
theorem killL_live : ∀ (vs : List AV) (m : Mem) (b : Nat), live ((killL vs m) b) → live (m b)
  | [], _, _, h => h
  | v :: vs, m, b, h => kill_live v m b (killL_live vs _ b h)
theorem killL_owns {E : Env} {m : Mem} {vs : List AV} {j : Nat} (h : owns E (killL vs m) j) : owns E m j := by
  obtain ⟨b, bt, hl, h⟩ := h; exact ⟨b, bt, killL_live vs m b hl, h⟩

/-! ### Plain data out of values -/
theorem cast?_some {t u : Ty} {x : t.den} {y : u.den} (h : cast? t u x = some y) : ∃ e : t = u, e ▸ x = y := by
  unfold cast? at h
  split at h
  · rename_i he; cases h; exact ⟨Ty.eq_of_eqb he, rfl⟩
  · cases h
theorem cast?_self (t : Ty) (x : t.den) : cast? t t x = some x := by
  unfold cast?
  split
  · rfl
  · rename_i he; simp [Ty.eqb_self] at he
theorem Rd.nolist {w w' : World} {im im' : Nat → Prop} : ∀ (t : Ty) (x : t.den) (cs : List Value), t.lists = false → Rd w im t x cs → Rd w' im' t x cs := by
  refine Ty.ind ?_ ?_ ?_ ?_ ?_ ?_ ?_ ?_
  · intro k x cs _ h; rw [Rd.int] at *; exact h
  · intro x cs _ h; rw [Rd.bool] at *; exact h
  · intro x cs _ h; rw [Rd.str] at *; exact h
  · intro x cs _ h; rw [Rd.unit] at *; exact h
  · intro a b iha ihb x cs hl h
    simp [Ty.lists] at hl
    rw [Rd.prod] at *; obtain ⟨c, d, e, h1, h2⟩ := h; exact ⟨c, d, e, iha _ _ hl.1 h1, ihb _ _ hl.2 h2⟩
  · intro n t ih x cs hl h
    simp [Ty.lists] at hl
    rw [Rd.arr] at *; obtain ⟨css, e, h⟩ := h; exact ⟨css, e, h.mono fun y c => ih y c hl⟩
  · intro t _ x cs hl; simp [Ty.lists] at hl
  · intro s ih x cs hl h
    have : s.body.lists = false := by cases s <;> simp_all [Ty.lists, St.body]
    rw [Rd.st] at *; exact ih _ _ this h

/-- The blocks of rows that a value has. -/
def rowsOf : AV → Nat → Prop
  | .sl b, i => i = b
  | .asl b _, i => i = b
  | .agv _ l, i => rowsOf l i
  | .cons a l, i => rowsOf a i ∨ rowsOf l i
  | _, _ => False
/-- A row's elements, read where it lies. -/
theorem slab_Rd {C : Ctx} {E : Env} {m : Mem} {U : Nat → Prop} (h : MR C E m U) {b : Nat} {t : Ty} {xs : List t.den} (hm : m b = .slab t xs) {cs : List Value} (hc : RC E (.sl b) cs) {im : Nat → Prop}
    (h1 : ∀ k, E.imm k → im k) (h2 : ∀ bt k, E.ρ b = some bt → bt.base = some k → im k) : Rd E.w im (.list t) xs cs := by
  have hb := h.blocks b
  rw [hm] at hb
  obtain ⟨ht, hb⟩ := hb
  rw [Rd.list]
  refine ⟨ht, ?_⟩
  rcases hb with ⟨hb, he⟩ | ⟨k, cap, cells, el, css, rest, hb, hcell, hsz, hlen, hcap, hall, hflat⟩
  · rcases hc with ⟨t', hb', rfl⟩ | ⟨k, t', cap, len, hb', rfl⟩
    · exact .inl ⟨rfl, he⟩
    · rw [hb] at hb'; cases hb'
  · rcases hc with ⟨t', hb', rfl⟩ | ⟨k', t', cap', len, hb', rfl⟩
    · rw [hb] at hb'; cases hb'
    · rw [hb] at hb'
      cases hb'
      refine .inr ⟨⟨k, 0, none⟩, cap, css, rfl, fun _ => rfl, hlen, hcap, hall.mono fun y c hr => Rd.mono (fun j hj => ⟨h1 j hj, rfl⟩) _ _ _ hr, fun _ => h2 _ k hb rfl, fun j v hv => ?_⟩
      have : cells[j]? = some v := by
        rw [← Array.getElem?_toList, hflat, List.getElem?_append_left (List.getElem?_eq_some_iff.1 hv).1]
        exact hv
      simp [World.cell?, hcell, this]
theorem toPure_RC {C : Ctx} {E : Env} {m : Mem} {U : Nat → Prop} (h : MR C E m U) {im : Nat → Prop} (h1 : ∀ k, E.imm k → im k) : ∀ (v : AV) (u : Ty) (d : u.den) (cs : List Value), toPure m v u = some d → RC E v cs →
    (∀ b bt k, rowsOf v b → live (m b) → E.ρ b = some bt → bt.base = some k → im k) → Rd E.w im u d cs := by
  intro v
  induction v with
  | val t x =>
    intro u d cs hp hr _
    obtain ⟨e, hx⟩ := cast?_some (show cast? t u x = some d by simpa [toPure] using hp)
    subst e; subst hx
    exact Rd.mono (fun j hj => ⟨h1 j hj, rfl⟩) _ _ _ hr
  | nils =>
    intro u d cs hp hr _
    cases u <;> simp [toPure] at hp
    subst hp
    rw [Rd.list]
    exact ⟨by simp, .inl ⟨hr, rfl⟩⟩
  | sl b =>
    intro u d cs hp hr hk
    simp only [toPure] at hp
    split at hp
    · rename_i e xs hm
      obtain ⟨e1, hx⟩ := cast?_some (show cast? (.list e) u xs = some d from hp)
      subst e1; subst hx
      exact slab_Rd h hm hr h1 fun bt k hb hbk => hk b bt k rfl (by rw [hm]; trivial) hb hbk
    · cases hp
  | asl b p =>
    intro u d cs hp hr hk
    simp only [toPure] at hp
    split at hp
    · rename_i n e x hm
      obtain ⟨e1, hx⟩ := cast?_some (show cast? (.list e) u x.toList = some d from hp)
      subst e1; subst hx
      obtain ⟨k, t, n', u', o, hb, hty, hin, hb1, hb2, rfl⟩ := hr
      cases hmb : m b with
      | var t2 v2 =>
        rw [hmb] at hm
        have hbl := h.blocks b
        rw [hmb] at hbl
        obtain ⟨hh, k2, cells, el, hq2, hcell, hrc⟩ := hbl
        rw [hb] at hq2; cases hq2
        obtain ⟨hy, c, d, e', hcs, hcl, hrd⟩ := load_sound p _ _ _ _ _ _ hh hrc hty hin hm
        have := has_val hy
        cases this
        have hrd : Rd E.w E.imm (.arr n e) x d := hrd
        rw [Rd.arr] at hrd
        obtain ⟨css, rfl, hall⟩ := hrd
        rw [Rd.list]
        refine ⟨?_, .inr ⟨⟨k, o, none⟩, n, css, ?_, fun _ => rfl, ?_, ?_, hall.mono fun y c hr => Rd.mono (fun j hj => ⟨h1 j hj, rfl⟩) _ _ _ hr, fun _ => hk b _ k rfl (by rw [hmb]; trivial) hb rfl, fun j v hv => ?_⟩⟩
        · simpa using hb1
        · simp
        · simp
        · exact hb2
        · have : cells[o + j]? = some v := by
            rw [← Array.getElem?_toList, hcs, ← hcl, List.append_assoc, List.getElem?_append_right (by omega), Nat.add_sub_cancel_left, List.getElem?_append_left (List.getElem?_eq_some_iff.1 hv).1]
            exact hv
          simp [World.cell?, hcell, this]
      | slab t2 xs2 =>
        have hbl := h.blocks b
        rw [hmb] at hbl
        obtain ⟨_, hbl⟩ := hbl
        rcases hbl with ⟨hb2, _⟩ | ⟨_, _, _, _, _, _, hb2, _⟩ <;> (rw [hb] at hb2; cases hb2)
      | _ => rw [hmb] at hm; simp [AB.load] at hm
    · cases hp
  | agv s l ih =>
    intro u d cs hp hr hk
    cases u <;> simp only [toPure] at hp <;> try (cases hp; done)
    rename_i s'
    split at hp
    · rename_i y hy
      obtain ⟨e1, hx⟩ := cast?_some hp
      cases e1
      have hx : s.pack y = d := hx
      subst hx
      rw [Rd.st, St.unpack_pack]
      exact ih _ _ _ hy hr fun b bt k hb => hk b bt k hb
    · cases hp
  | nil =>
    intro u d cs hp hr _
    cases u <;> simp [toPure] at hp
    rw [Rd.unit]; exact hr
  | cons a l iha ihl =>
    intro u d cs hp hr hk
    cases u <;> simp only [toPure] at hp <;> try (cases hp; done)
    obtain ⟨c, e, rfl, hra, hrl⟩ := hr
    split at hp
    · rename_i p q hpa hpl
      cases hp
      rw [Rd.prod]
      exact ⟨c, e, rfl, iha _ _ _ hpa hra fun b bt k hb => hk b bt k (.inl hb), ihl _ _ _ hpl hrl fun b bt k hb => hk b bt k (.inr hb)⟩
    · cases hp
  | _ => intro u d cs hp; simp [toPure] at hp
theorem toPure_agg {m : Mem} {v : AV} {u : Ty} {d : u.den} (h : toPure m v u = some d) (h1 : v ≠ .nil) (h2 : ∀ a l, v ≠ .cons a l) : v.isAgg = u.agg := by
  cases v with
  | val t x => obtain ⟨e, _⟩ := cast?_some (show cast? t u x = some d by simpa [toPure] using h); subst e; rfl
  | nils => cases u <;> simp [toPure] at h; rfl
  | sl b =>
    simp only [toPure] at h
    split at h
    · obtain ⟨e1, _⟩ := cast?_some (show cast? (.list _) u _ = some d from h); subst e1; rfl
    · cases h
  | asl b p =>
    simp only [toPure] at h
    split at h
    · obtain ⟨e1, _⟩ := cast?_some (show cast? (.list _) u _ = some d from h); subst e1; rfl
    · cases h
  | agv s l => cases u <;> simp [toPure] at h; rfl
  | nil => exact absurd rfl h1
  | cons a l => exact absurd rfl (h2 _ _)
  | _ => simp [toPure] at h

/-- All rows of a value let go. -/
theorem kill_MR {C : Ctx} : ∀ (v : AV) {E : Env} {m : Mem} {U : Nat → Prop}, MR C E m U → ∃ im, MR C { E with imm := im } (kill v m) U ∧ Ext E { E with imm := im } ∧
    (letsGo v = true → ∀ b bt k, rowsOf v b → live (m b) → E.ρ b = some bt → bt.base = some k → im k) ∧ ∀ k, im k → E.imm k ∨ owns E m k := by
  intro v
  induction v with
  | sl b =>
    intro E m U h
    obtain ⟨im, h1, h2, h3, h4⟩ := h.kill1 b
    exact ⟨im, h1, h2, fun _ b' bt k hb => by cases hb; exact h3 bt k, h4⟩
  | asl b p => intro E m U h; exact ⟨E.imm, h, Ext.refl _, (fun hg => by simp [letsGo] at hg), fun _ h => .inl h⟩
  | agv s l ih => intro E m U h; exact ih h
  | cons a l iha ihl =>
    intro E m U h
    obtain ⟨im1, h1, h2, h3, g1⟩ := iha h
    obtain ⟨im2, h4, h5, h6, g2⟩ := ihl h1
    refine ⟨im2, h4, h2.trans h5, fun hg b bt k hb hl hbt hk => ?_, fun k hk => (g2 k hk).elim (g1 k) (fun ho => .inr (kill_owns (E := E) ho))⟩
    simp [letsGo] at hg
    rcases hb with hb | hb
    · exact (h5.imm k (h3 hg.1 b bt k hb hl hbt hk)).1
    · by_cases hl2 : live ((kill a m) b)
      · exact h6 hg.2 b bt k hb hl2 hbt hk
      · -- it went with the first part
        have : ∀ (v : AV) (m : Mem) (b : Nat), live (m b) → ¬ live ((kill v m) b) → rowsOf v b := by
          intro v
          induction v with
          | sl b' =>
            intro m b hl hn
            by_cases hbb : b = b'
            · exact hbb
            · exact absurd (by simpa [kill, Mem.put_ne _ _ hbb] using hl) hn
          | agv s l ih => intro m b; exact ih m b
          | cons a l iha ihl =>
            intro m b hl hn
            by_cases h1 : live ((kill a m) b)
            · exact .inr (ihl _ b h1 hn)
            · exact .inl (iha m b hl h1)
          | _ => intro m b hl hn; exact absurd hl hn
        exact (h5.imm k (h3 hg.1 b bt k (this a m b hl hl2) hl hbt hk)).1
  | _ => intro E m U h; exact ⟨E.imm, h, Ext.refl _, (fun _ b bt k hb => hb.elim), fun _ h => .inl h⟩
theorem killL_MR {C : Ctx} : ∀ (vs : List AV) {E : Env} {m : Mem} {U : Nat → Prop}, MR C E m U → ∃ im, MR C { E with imm := im } (killL vs m) U ∧ Ext E { E with imm := im } ∧
    (vs.all letsGo = true → ∀ v ∈ vs, ∀ b bt k, rowsOf v b → live (m b) → E.ρ b = some bt → bt.base = some k → im k) ∧ ∀ k, im k → E.imm k ∨ owns E m k
  | [], E, m, U, h => ⟨E.imm, h, Ext.refl _, (fun _ v hv => by simp at hv), fun _ h => .inl h⟩
  | v :: vs, E, m, U, h => by
    obtain ⟨im1, h1, h2, h3, g1⟩ := kill_MR v h
    obtain ⟨im2, h4, h5, h6, g2⟩ := killL_MR vs h1
    refine ⟨im2, h4, h2.trans h5, fun hg v' hv b bt k hb hl hbt hk => ?_, fun k hk => (g2 k hk).elim (g1 k) (fun ho => .inr (kill_owns (E := E) ho))⟩
    simp at hg
    have gone : ∀ (v : AV) (m : Mem) (b : Nat), live (m b) → ¬ live ((kill v m) b) → rowsOf v b := by
      intro v
      induction v with
      | sl b' =>
        intro m b hl hn
        by_cases hbb : b = b'
        · exact hbb
        · exact absurd (by simpa [kill, Mem.put_ne _ _ hbb] using hl) hn
      | agv s l ih => intro m b; exact ih m b
      | cons a l iha ihl =>
        intro m b hl hn
        by_cases h1 : live ((kill a m) b)
        · exact .inr (ihl _ b h1 hn)
        · exact .inl (iha m b hl h1)
      | _ => intro m b hl hn; exact absurd hl hn
    by_cases hl2 : live ((kill v m) b)
    · rcases List.mem_cons.1 hv with rfl | hv
      · exact (h5.imm k (h3 hg.1 b bt k hb hl hbt hk)).1
      · exact h6 (by simpa using hg.2) v' hv b bt k hb hl2 hbt hk
    · exact (h5.imm k (h3 hg.1 b bt k (gone v m b hl hl2) hl hbt hk)).1
end Go.Co
