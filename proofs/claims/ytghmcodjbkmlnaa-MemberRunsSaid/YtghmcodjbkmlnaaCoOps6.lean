/-
  The operations that make memory or write it: variables, stores, maps, slices' literals, append; literals of structs and arrays.
  Own text, for the claims about coterie.
-/
import Derived.Test.YtghmcodjbkmlnaaCoOps5
import Derived.Laws.AppendOwn
import Derived.Laws.Tables
namespace Go.Co
open Go.RowKit

/-- Nothing but the variables' own blocks has turned. -/
structure Frm (E : Env) (m : Mem) (E' : Env) (m' : Mem) : Prop where
  heap : ∀ j, j < E.w.heap.size → ¬ owns E m j → E'.w.heap[j]? = E.w.heap[j]?
  size : E.w.heap.size ≤ E'.w.heap.size
  own : ∀ j, owns E' m' j → owns E m j ∨ E.w.heap.size ≤ j
  imm : ∀ j, E'.imm j → E.imm j ∨ owns E m j ∨ E.w.heap.size ≤ j
theorem Frm.refl (E : Env) (m : Mem) : Frm E m E m := ⟨fun _ _ _ => rfl, Nat.le_refl _, fun _ h => .inl h, fun _ h => .inl h⟩
theorem Frm.trans {E F G : Env} {m n o : Mem} (h : Frm E m F n) (h' : Frm F n G o) : Frm E m G o := by
  refine ⟨fun j hj hn => ?_, Nat.le_trans h.size h'.size, fun j hj => ?_, fun j hj => ?_⟩
  · rw [h'.heap j (Nat.lt_of_lt_of_le hj h.size) (fun ho => (h.own j ho).elim hn (fun hle => absurd hj (by omega)))]
    exact h.heap j hj hn
  · rcases h'.own j hj with h1 | h1
    · exact h.own j h1
    · exact .inr (Nat.le_trans h.size h1)
  · rcases h'.imm j hj with h1 | h1 | h1
    · exact h.imm j h1
    · rcases h.own j h1 with h2 | h2
      · exact .inr (.inl h2)
      · exact .inr (.inr h2)
    · exact .inr (.inr (Nat.le_trans h.size h1))
/-- What is let go. -/
theorem Frm.kill {E : Env} {m m' : Mem} {im : Nat → Prop} (h1 : ∀ j, owns E m' j → owns E m j) (h2 : ∀ k, im k → E.imm k ∨ owns E m k) : Frm E m { E with imm := im } m' :=
  ⟨fun _ _ _ => rfl, Nat.le_refl _, fun j hj => .inl (h1 j hj), fun j hj => (h2 j hj).elim .inl (fun h => .inr (.inl h))⟩
theorem owns_put {E : Env} {m : Mem} {b : Nat} {y : AB} {j : Nat} (hl : live (m b)) (h : owns E (m.put b y) j) : owns E m j := by
  obtain ⟨i, bt, hli, hb, hj⟩ := h
  by_cases hib : i = b
  · subst hib; exact ⟨i, bt, hl, hb, hj⟩
  · rw [Mem.put_ne _ _ hib] at hli; exact ⟨i, bt, hli, hb, hj⟩
theorem owns_world {E : Env} {w' : World} {m : Mem} {j : Nat} : owns { E with w := w' } m j ↔ owns E m j := Iff.rfl

section
variable {C : Ctx} {E : Env} {m : Mem} {U : Nat → Prop}
/-- A new block. -/
theorem alloc_ok (h : MR C E m U) {nx : Nat} (hN : ¬ U nx) (o : Obj) (bt : BT) (hbt : bt.base = some E.w.heap.size) (y : AB) (hy : Ext E { (E.name nx bt) with w := E.w.alloc o } → RM { (E.name nx bt) with w := E.w.alloc o } nx y) (hly : live y := by trivial) :
    ∃ E', E'.w = E.w.alloc o ∧ E'.ρ nx = some bt ∧ Ext E E' ∧ MR C E' (m.put nx y) (fun b => U b ∨ b = nx) ∧ Frm E m E' (m.put nx y) := by
  have hx : Ext E { (E.name nx bt) with w := E.w.alloc o } :=
    ⟨(Ext.name h hN bt).ρ, fun k hk => ⟨hk, Below.heap_alloc _ _ _ (h.immLt k hk)⟩⟩
  obtain ⟨h1, h2⟩ := h.alloc hN o bt hbt y (hy hx) hly
  refine ⟨_, rfl, by simp [Env.name], h2, h1, fun j hj _ => Below.heap_alloc _ _ _ hj, by simp, ?_, fun j hj => .inl hj⟩
  rintro j ⟨i, bt', hli, hb, hj⟩
  by_cases hib : i = nx
  · subst hib
    simp [Env.name] at hb
    subst hb
    rw [hbt] at hj; cases hj
    exact .inr (Nat.le_refl _)
  · rw [Mem.put_ne _ _ hib] at hli
    simp [Env.name, hib] at hb
    exact .inl ⟨i, bt', hli, hb, hj⟩
/-- A name for the nil row. -/
theorem nilrow_ok (h : MR C E m U) {nx : Nat} (hN : ¬ U nx) (t : Ty) : ∃ E', E'.w = E.w ∧ E'.ρ nx = some (.nilslab t) ∧ Ext E E' ∧ MR C E' (m.put nx (.slab t [])) (fun b => U b ∨ b = nx) ∧ Frm E m E' (m.put nx (.slab t [])) := by
  have hx := Ext.name h hN (.nilslab t)
  have hname : ∀ b, b ≠ nx → (E.name nx (.nilslab t)).ρ b = E.ρ b := fun b hb => by simp [Env.name, hb]
  have hnew : (E.name nx (.nilslab t)).ρ nx = some (.nilslab t) := by simp [Env.name]
  have hown : ∀ j, owns (E.name nx (.nilslab t)) (m.put nx (.slab t [])) j → owns E m j := by
    rintro j ⟨i, bt, hli, hb, hj⟩
    by_cases hib : i = nx
    · subst hib; rw [hnew] at hb; cases hb; simp [BT.base] at hj
    · rw [Mem.put_ne _ _ hib] at hli; rw [hname i hib] at hb; exact ⟨i, bt, hli, hb, hj⟩
  refine ⟨E.name nx (.nilslab t), rfl, hnew, hx, ⟨h.below, ?_, fun k hk => h.own k (hown k hk), ?_, h.immLt, h.immI, ?_⟩, fun _ _ _ => rfl, Nat.le_refl _, fun j hj => .inl (hown j hj), fun j hj => .inl hj⟩
  · intro b
    by_cases hb : b = nx
    · subst hb; rw [Mem.put_same]; exact ⟨by simp, .inl ⟨hnew, rfl⟩⟩
    · rw [Mem.put_ne _ _ hb]; exact (h.blocks b).frame hx fun _ _ _ _ _ => rfl
  · intro b b' b1 b2 k h1 h2 h3 h4 h5 h6
    by_cases hb : b = nx
    · subst hb; rw [hnew] at h3; cases h3; simp [BT.base] at h5
    · by_cases hb2 : b' = nx
      · subst hb2; rw [hnew] at h4; cases h4; simp [BT.base] at h6
      · rw [Mem.put_ne _ _ hb] at h1
        rw [Mem.put_ne _ _ hb2] at h2
        rw [hname b hb] at h3
        rw [hname b' hb2] at h4
        exact h.inj b b' b1 b2 k h1 h2 h3 h4 h5 h6
  · intro b bt hb
    by_cases hbn : b = nx
    · exact .inr hbn
    · rw [hname b hbn] at hb; exact .inl (h.nx b bt hb)
/-- A row, longer, in its old block, under a new name. -/
theorem reslab_ok (h : MR C E m U) {nx b k : Nat} {t : Ty} {cap len len' : Nat} (hN : ¬ U nx) (hl : live (m b)) (hb : E.ρ b = some (.slab k t cap len)) {w' : World}
    (hos : w'.os = E.w.os) (htape : w'.tape = E.w.tape) (hout : w'.output = E.w.output) (hsz : w'.heap.size = E.w.heap.size) (hoth : ∀ j, j ≠ k → w'.heap[j]? = E.w.heap[j]?)
    (y : AB) (hy : Ext E { (E.name nx (.slab k t cap len')) with w := w' } → RM { (E.name nx (.slab k t cap len')) with w := w' } nx y) (hly : live y := by trivial) :
    ∃ E', E'.w = w' ∧ E'.ρ nx = some (.slab k t cap len') ∧ Ext E E' ∧ MR C E' ((m.put b .dead).put nx y) (fun b => U b ∨ b = nx) ∧ Frm E m E' ((m.put b .dead).put nx y) := by
  obtain ⟨ho1, ho2, ho3⟩ := h.own k ⟨b, _, hl, hb, rfl⟩
  have hx : Ext E { (E.name nx (.slab k t cap len')) with w := w' } := ⟨(Ext.name h hN _).ρ, fun j hj => ⟨hj, hoth j (fun e => ho3 (e ▸ hj))⟩⟩
  have hname : ∀ i, i ≠ nx → (E.name nx (.slab k t cap len')).ρ i = E.ρ i := fun i hi => by simp [Env.name, hi]
  have hnew : (E.name nx (.slab k t cap len')).ρ nx = some (.slab k t cap len') := by simp [Env.name]
  have hbn : b ≠ nx := by rintro rfl; exact hN (h.nx _ _ hb)
  have hold : ∀ i, i ≠ nx → live (((m.put b .dead).put nx y) i) → i ≠ b ∧ live (m i) := fun i hi hli => by
    rw [Mem.put_ne _ _ hi] at hli
    by_cases hib : i = b
    · subst hib; rw [Mem.put_same] at hli; exact hli.elim
    · rw [Mem.put_ne _ _ hib] at hli; exact ⟨hib, hli⟩
  have hown : ∀ j, owns { (E.name nx (.slab k t cap len')) with w := w' } ((m.put b .dead).put nx y) j → owns E m j := by
    rintro j ⟨i, bt, hli, hbi, hj⟩
    by_cases hi : i = nx
    · subst hi
      rw [show ({ (E.name i (.slab k t cap len')) with w := w' } : Env).ρ i = some (.slab k t cap len') from hnew] at hbi
      cases hbi; cases hj; exact ⟨b, _, hl, hb, rfl⟩
    · rw [show ({ (E.name nx (.slab k t cap len')) with w := w' } : Env).ρ i = E.ρ i from hname i hi] at hbi
      exact ⟨i, bt, (hold i hi hli).2, hbi, hj⟩
  refine ⟨{ (E.name nx (.slab k t cap len')) with w := w' }, rfl, hnew, hx, ⟨?_, ?_, ?_, ?_, ?_, h.immI, ?_⟩, fun j hj hn => hoth j (fun e => hn (e ▸ ⟨b, _, hl, hb, rfl⟩)), by simp [hsz], fun j hj => .inl (hown j hj), fun j hj => .inl hj⟩
  · refine h.below.trans ⟨⟨hos, htape, hout, by rw [hsz]; exact Nat.le_refl _, fun j hj => hoth j (by omega)⟩, fun a => ?_⟩
    by_cases ha : a.block = k
    · have h1 := (hy hx).unfrozen hly hnew rfl a.off a.spot
      have h2 := (h.blocks b).unfrozen hl hb rfl a.off a.spot
      rw [← ha] at h1 h2
      exact h1.trans h2.symm
    · exact frozen_same (hoth _ ha)
  · intro i
    by_cases hi : i = nx
    · subst hi; rw [Mem.put_same]; exact hy hx
    · rw [Mem.put_ne _ _ hi]
      by_cases hib : i = b
      · subst hib; rw [Mem.put_same]; trivial
      · rw [Mem.put_ne _ _ hib]
        refine (h.blocks i).frame hx fun bt' j hb' hj hli => hoth j fun e => hib ?_
        subst e
        exact h.inj i b bt' _ j hli hl hb' hb hj rfl
  · intro j hj
    have := h.own j (hown j hj)
    exact ⟨by simpa [hsz] using this.1, this.2⟩
  · intro i i' b1 b2 j h1 h2 h3 h4 h5 h6
    by_cases hi : i = nx
    · by_cases hi2 : i' = nx
      · rw [hi, hi2]
      · exfalso
        subst hi
        rw [show ({ (E.name i (.slab k t cap len')) with w := w' } : Env).ρ i = some (.slab k t cap len') from hnew] at h3
        cases h3; cases h5
        rw [show ({ (E.name i (.slab k t cap len')) with w := w' } : Env).ρ i' = E.ρ i' from hname i' hi2] at h4
        obtain ⟨hne, hli⟩ := hold i' hi2 h2
        exact hne (h.inj i' b b2 _ k hli hl h4 hb h6 rfl)
    · by_cases hi2 : i' = nx
      · exfalso
        subst hi2
        rw [show ({ (E.name i' (.slab k t cap len')) with w := w' } : Env).ρ i' = some (.slab k t cap len') from hnew] at h4
        cases h4; cases h6
        rw [show ({ (E.name i' (.slab k t cap len')) with w := w' } : Env).ρ i = E.ρ i from hname i hi] at h3
        obtain ⟨hne, hli⟩ := hold i hi h1
        exact hne (h.inj i b b1 _ k hli hl h3 hb h5 rfl)
      · rw [show ({ (E.name nx (.slab k t cap len')) with w := w' } : Env).ρ i = E.ρ i from hname i hi] at h3
        rw [show ({ (E.name nx (.slab k t cap len')) with w := w' } : Env).ρ i' = E.ρ i' from hname i' hi2] at h4
        exact h.inj i i' b1 b2 j (hold i hi h1).2 (hold i' hi2 h2).2 h3 h4 h5 h6
  · intro j hj
    have := h.immLt j hj
    simpa [hsz] using this
  · intro i bt hbi
    by_cases hi : i = nx
    · exact .inr hi
    · rw [show ({ (E.name nx (.slab k t cap len')) with w := w' } : Env).ρ i = E.ρ i from hname i hi] at hbi
      exact .inl (h.nx i bt hbi)
end

section
variable {P : Program} {T : Tab} (hT : TabOK P T) {tid : Nat}
include hT

/-! ### Zero values -/
omit hT in
theorem exZero_ok {E : Env} : ∀ b : Ty, isBody b = true → (zeroV.exZero b).has b = true ∧ RC E (zeroV.exZero b) (zcells b) := by
  intro b
  induction b with
  | unit => intro _; exact ⟨rfl, rfl⟩
  | prod a b _ ihb =>
    intro h
    have hb : isBody b = true := h
    obtain ⟨h1, h2⟩ := ihb hb
    cases a with
    | list t => exact ⟨by simp [zeroV.exZero, AV.has, isList, h1], [.slice none 0 0], zcells b, rfl, rfl, h2⟩
    | _ => exact ⟨by simp [zeroV.exZero, AV.has, Ty.eqb_self, h1], _, zcells b, rfl, Rd.zero _ _ _, h2⟩
  | _ => intro h; simp [isBody] at h
omit hT in
theorem zeroV_ok {E : Env} (t : Ty) : (zeroV t).has t = true ∧ RC E (zeroV t) (zcells t) := by
  cases t with
  | list t => exact ⟨rfl, rfl⟩
  | st s =>
    simp only [zeroV]
    split
    · obtain ⟨h1, h2⟩ := exZero_ok (E := E) s.body (isBody_body s)
      refine ⟨by simp [AV.has, h1], ?_⟩
      have : zcells (.st s) = zcells s.body := zcN_body s
      rw [this]; exact h2
    · exact ⟨Ty.eqb_self _, Rd.zero _ _ (.st s)⟩
  | int k => exact ⟨Ty.eqb_self _, Rd.zero _ _ (.int k)⟩
  | bool => exact ⟨Ty.eqb_self _, Rd.zero _ _ .bool⟩
  | str => exact ⟨Ty.eqb_self _, Rd.zero _ _ .str⟩
  | unit => exact ⟨Ty.eqb_self _, Rd.zero _ _ .unit⟩
  | prod a b => exact ⟨Ty.eqb_self _, Rd.zero _ _ (.prod a b)⟩
  | arr n t => exact ⟨Ty.eqb_self _, Rd.zero _ _ (.arr n t)⟩

omit hT in
theorem zcells_len (t : Ty) : (zcells t).length = t.size := Rd.len (w := default) (im := fun _ => False) _ _ _ (Rd.zero _ _ t)
theorem alloc_run {t : Ty} (he : T.get tid = some (.ty t)) (w : World) : (Instr.alloc tid true (.tuple #[])).run P w = .ok (.pointer (some ⟨w.heap.size, 0, none⟩)) (w.alloc (.cells (zcells t).toArray tid)) := by
  have hz := run_zeroValue' hT he w
  have hc : (pk t.agg (zcells t)).cells = (zcells t).toArray := by
    have := (Rd.zero w (fun _ => False) t).cells
    apply Array.ext'
    simpa using this
  simp [Instr.alloc, hz, newVar, newRow, hc]
omit hT in
theorem box_run {v : Value} (w : World) : (Instr.box tid v).run P w = .ok (.pointer (some ⟨w.heap.size, 0, none⟩)) (w.alloc (.cells v.cells tid)) := by
  simp [Instr.box, newVar, newRow]

theorem storeK_ok {R : Type} {C : Ctx} {m : Mem} {x v : AV} {K : Mem → Option R} {y : R} (h : storeK T tid m x v K = some y) :
    ∃ m', K m' = some y ∧ ∀ E a z U, RV E x a → RV E v z → MR C E m U → ∃ E', (Instr.storeAt tid a z).run P E.w = .ok () E'.w ∧ Ext E E' ∧ MR C E' m' U ∧ Frm E m E' m' := by
  unfold storeK at h
  split at h
  · rename_i t b p he
    split at h
    · rename_i u hty hv
      split at h
      · rename_i ab heq hst
        have := Ty.eq_of_eqb heq; subst this
        refine ⟨_, h, fun E a z U ha hz hm => ?_⟩
        obtain ⟨bt, k, u', o, h1, h2, h3, rfl⟩ := ha.ptr
        have := ptr_ty hm h1 h3 hty; subst this
        obtain ⟨d, rfl, hd⟩ := hz.cells (by rintro rfl; simp [AV.has] at hv) (by rintro l rfl; simp [AV.has] at hv)
        have hnp := tab_noprod hT he
        have hdc : (pk v.isAgg d).cells.toList = d := hd.cells (by rintro rfl; cases u' <;> simp [AV.has] at hv; exact hnp.2 rfl) (by rintro a l rfl; cases u' <;> simp [AV.has] at hv; exact hnp.1 _ _ rfl)
        have hdl := has_cells hv hd
        have hsz : (sizeOf tid).run P E.w = .ok u'.size E.w := run_sizeOf' hT he E.w
        have hbl := hm.blocks b
        have runit : ∀ (cs : Array Value) (el : TypeId), E.w.heap[k]? = some (.cells cs el (0, 0)) → o + u'.size ≤ cs.size →
            (Instr.storeAt tid (.pointer (some ⟨k, o, none⟩)) (pk v.isAgg d)).run P E.w = .ok () (E.w.setRow k (cs.toList.take o ++ d ++ cs.toList.drop (o + u'.size)).toArray) := by
          intro cs el hc hle
          have hst := run_storeCells_at P k o el d 0 cs E.w hc (by omega) hd.one
          simp only [Nat.add_zero, hdl] at hst
          have hsize : (pk v.isAgg d).cells.size = u'.size := by
            rw [← Array.length_toList, hdc, hdl]
          simp [Instr.storeAt, Instr.sureAddr, storeVar, hsz, hsize, hdc, hst]
        have hmem : ∀ (cs : Array Value) (el : TypeId) (cs' : Array Value), E.w.heap[k]? = some (.cells cs el (0, 0)) → live (m b) → live ab →
            (Ext E { E with w := E.w.setRow k cs' } → RM { E with w := E.w.setRow k cs' } b ab) →
            Ext E { E with w := E.w.setRow k cs' } ∧ MR C { E with w := E.w.setRow k cs' } (m.put b ab) U ∧ Frm E m { E with w := E.w.setRow k cs' } (m.put b ab) := by
          intro cs el cs' hc hl hlab hr
          obtain ⟨hm', hx⟩ := MR.write hm hl h1 h2 (w' := E.w.setRow k cs') rfl rfl rfl (by simp) (fun j hj => setRow_other E.w k j cs' hj) ab hr hlab
          refine ⟨hx, hm', fun j hj hn => setRow_other E.w k j cs' (fun e => hn (e ▸ ⟨b, bt, hl, h1, h2⟩)), by simp, fun j hj => .inl (owns_put hl hj), fun j hj => .inl hj⟩
        cases hmb : m b with
        | var t0 v0 =>
          rw [hmb] at hbl hst
          obtain ⟨hh, k', cs, el, hb, hc, hr⟩ := hbl
          rw [h1] at hb; cases hb; cases h2
          simp only [AB.store] at hst
          cases hv' : storeAV v0 p v with
          | none => simp [hv'] at hst
          | some v' =>
            simp [hv'] at hst; subst hst
            obtain ⟨hh', hr'⟩ := store_sound hv hd p v0 v' t0 o cs.toList hh hr h3.1 h3.2 hv'
            have hle := tyAt_le p t0 u' o h3.1 h3.2
            have hcl := has_cells hh hr
            obtain ⟨hx, hm', hf⟩ := hmem cs el (cs.toList.take o ++ d ++ cs.toList.drop (o + u'.size)).toArray hc (by rw [hmb]; trivial) trivial (fun hx => ⟨hh', _, _, el, h1, setRow_heap E.w _ cs _ el _ hc, by
              show RC _ v' _
              exact hr'.ext hx⟩)
            exact ⟨_, runit cs el hc (by rw [Array.length_toList] at hcl; omega), hx, hm', hf⟩
        | slab t0 xs =>
          rw [hmb] at hbl hst
          obtain ⟨htop, hbl⟩ := hbl
          rcases hbl with ⟨hb, _⟩ | ⟨k', cap, cs, el, css, rest, hb, hc, hcap, hlc, hml, hall, hfl⟩
          · rw [h1] at hb; cases hb; simp [BT.base] at h2
          · rw [h1] at hb; cases hb; cases h2
            cases p with
            | nil => simp [AB.store] at hst
            | cons s p =>
              cases s with
              | fld i => simp [AB.store] at hst
              | idx i =>
                cases v with
                | val u2 dd =>
                  simp only [AB.store] at hst
                  have := has_val hv; subst this
                  obtain ⟨q, h4, rfl, h5, h6, h7⟩ := h3
                  have hi : i.toNat < List.length xs := by omega
                  obtain ⟨c, hcx, hdx⟩ := hall.get i.toNat _ (List.getElem?_eq_getElem hi)
                  have hlat : lat xs i = xs[i.toNat] := by simp [lat, List.getD, List.getElem?_eq_getElem hi]
                  rw [hlat] at hst
                  obtain ⟨x', hx', hrx⟩ := Rd.setAt (show Rd E.w E.imm u2 dd d from hd) p t0 _ c q hdx h4 h7
                  simp only [hx'] at hst
                  cases hst
                  have hle := tyAt_le p t0 u2 q h4 h7
                  have hcl := hall.lens c (List.mem_of_getElem? hcx)
                  have hfll : css.flatten.length = css.length * t0.size := flatten_len hall.lens
                  have hxs : (i.toNat + 1) * t0.size ≤ css.length * t0.size := Nat.mul_le_mul_right _ (by rw [← hall.length]; omega)
                  rw [Nat.add_mul, Nat.one_mul] at hxs
                  have hcsl : cs.toList.length = css.flatten.length + rest.length := by rw [hfl]; simp
                  have hle2 : i.toNat * t0.size + q + u2.size ≤ cs.size := by rw [Array.length_toList] at hcsl; omega
                  have hflat := flatten_at hall.lens hcx
                  obtain ⟨hx, hm', hf⟩ := hmem cs el (cs.toList.take (i.toNat * t0.size + q) ++ d ++ cs.toList.drop (i.toNat * t0.size + q + u2.size)).toArray hc (by rw [hmb]; trivial) trivial (fun hx => by
                    refine ⟨by simpa [lput] using htop, .inr ⟨_, cap, _, el, css.set i.toNat (c.take q ++ d ++ c.drop (q + u2.size)), rest, by simpa [lput] using h1, setRow_heap E.w _ cs _ el _ hc, ?_, by simpa [lput] using hlc, hml, ?_, ?_⟩⟩
                    · have := splice_len (cs := cs.toList) (o := i.toNat * t0.size + q) hdl (by rw [Array.length_toList]; exact hle2)
                      rw [Array.length_toList] at this
                      simpa [← hcap] using this
                    · exact All2.set (Rd.ext hx hrx) i.toNat (hall.mono fun _ _ hr => Rd.ext hx hr)
                    · rw [flatten_set hall.lens (by rw [← hall.length]; exact hi)]
                      have e1 := splice_in (e := css.flatten.drop (i.toNat * t0.size + t0.size) ++ rest) (d' := d) (m := q) (c := css.flatten.take (i.toNat * t0.size)) (o := i.toNat * t0.size)
                        (by rw [List.length_take]; omega) hcl (by omega)
                      have e2 : css.flatten.take (i.toNat * t0.size) ++ c ++ (css.flatten.drop (i.toNat * t0.size + t0.size) ++ rest) = cs.toList := by
                        rw [hfl]; conv => rhs; rw [hflat]
                        simp
                      rw [e2, hdl] at e1
                      show (cs.toList.take (i.toNat * t0.size + q) ++ d ++ cs.toList.drop (i.toNat * t0.size + q + u2.size)) = _
                      rw [e1]; simp)
                  exact ⟨_, runit cs el hc hle2, hx, hm', hf⟩
                | _ => simp [AB.store] at hst
        | map x y mm => rw [hmb] at hst; simp [AB.store] at hst
        | none => rw [hmb] at hst; simp [AB.store] at hst
        | dead => rw [hmb] at hst; simp [AB.store] at hst
      · cases h
    · cases h
  · cases h
end
end Go.Co
