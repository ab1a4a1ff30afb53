/-
  The operations that only read: what the model's run of them gives.
  Own text, for the claims about coterie.
-/
import Derived.Test.YtghmcodjbkmlnaaCoMem
namespace Go.Co
open Go.RowKit

theorem RV.cells {E : Env} {v : AV} {x : Value} (h : RV E v x) (h1 : v ≠ .junk) (h2 : ∀ l, v ≠ .tup l) : ∃ cs, x = pk v.isAgg cs ∧ RC E v cs := by
  cases v with
  | junk => exact absurd rfl h1
  | tup l => exact absurd rfl (h2 _)
  | _ => exact h
theorem RV.of {E : Env} {v : AV} {cs : List Value} (h : RC E v cs) : RV E v (pk v.isAgg cs) := by
  cases v with
  | junk => exact h.elim
  | tup l => exact h.elim
  | _ => exact ⟨cs, rfl, h⟩
theorem RV.val {E : Env} {t : Ty} {x : t.den} {v : Value} : RV E (.val t x) v ↔ ∃ cs, v = pk t.agg cs ∧ Rd E.w E.imm t x cs := Iff.rfl
theorem RV.int {E : Env} {k : IntKind} {n : Int} {v : Value} (h : RV E (.val (.int k) n) v) : v = .int k n ∧ inKind k n = true := by
  obtain ⟨cs, rfl, h⟩ := h; obtain ⟨rfl, h2⟩ := Rd.int.1 h; exact ⟨rfl, h2⟩
theorem RV.mkInt {E : Env} {k : IntKind} {n : Int} (h : inKind k n = true) : RV E (.val (.int k) n) (.int k n) := ⟨[.int k n], rfl, Rd.int.2 ⟨rfl, h⟩⟩
theorem RV.bool {E : Env} {b : Bool} {v : Value} (h : RV E (.val .bool b) v) : v = .bool b := by
  obtain ⟨cs, rfl, h⟩ := h; have h := Rd.bool.1 h; subst h; rfl
theorem RV.mkBool {E : Env} {b : Bool} : RV E (.val .bool b) (.bool b) := ⟨[.bool b], rfl, Rd.bool.2 rfl⟩
theorem RV.str {E : Env} {s : ByteArray} {v : Value} (h : RV E (.val .str s) v) : v = .string s ∧ s.size ≤ top := by
  obtain ⟨cs, rfl, h⟩ := h; obtain ⟨rfl, h2⟩ := Rd.str.1 h; exact ⟨rfl, h2⟩
theorem RV.mkStr {E : Env} {s : ByteArray} (h : s.size ≤ top) : RV E (.val .str s) (.string s) := ⟨[.string s], rfl, Rd.str.2 ⟨rfl, h⟩⟩
theorem RV.ptr {E : Env} {b : Nat} {p : List PS} {v : Value} (h : RV E (.ptr b p) v) : ∃ bt k u o, E.ρ b = some bt ∧ bt.base = some k ∧ partAt bt p u o ∧ v = .pointer (some ⟨k, o, none⟩) := by
  obtain ⟨cs, rfl, bt, k, u, o, h1, h2, h3, rfl⟩ := h; exact ⟨bt, k, u, o, h1, h2, h3, rfl⟩
theorem RV.mkPtr {E : Env} {b : Nat} {p : List PS} {bt : BT} {k : Nat} {u : Ty} {o : Nat} (h1 : E.ρ b = some bt) (h2 : bt.base = some k) (h3 : partAt bt p u o) : RV E (.ptr b p) (.pointer (some ⟨k, o, none⟩)) :=
  ⟨_, rfl, bt, k, u, o, h1, h2, h3, rfl⟩
theorem RV.eptr {E : Env} {t : Ty} {x : t.den} {v : Value} (h : RV E (.eptr t x) v) : ∃ a c, v = .pointer (some a) ∧ a.spot = none ∧ E.imm a.block ∧ Rd E.w E.imm t x c ∧ ∀ j v, c[j]? = some v → E.w.cell? ⟨a.block, a.off + j, none⟩ = some v := by
  obtain ⟨cs, rfl, a, c, rfl, h⟩ := h; exact ⟨a, c, rfl, h⟩

theorem RV.mkEptr {E : Env} {t : Ty} {x : t.den} {a : Addr} {c : List Value} (h1 : a.spot = none) (h2 : E.imm a.block) (h3 : Rd E.w E.imm t x c) (h4 : ∀ j v, c[j]? = some v → E.w.cell? ⟨a.block, a.off + j, none⟩ = some v) :
    RV E (.eptr t x) (.pointer (some a)) := ⟨_, rfl, a, c, rfl, h1, h2, h3, h4⟩
theorem cv_ok {E : Env} (v : Value) : RV E (cv v) v := by
  unfold cv
  split
  · exact RV.mkBool
  · split
    · exact RV.mkInt (by assumption)
    · trivial
  · split
    · rename_i h; exact RV.mkStr (Nat.le_of_ble_eq_true h)
    · trivial
  · exact ⟨_, rfl, rfl⟩
  · exact ⟨_, rfl, rfl⟩
  · trivial
/-- The operands of a frame. -/
theorem opv_ok {E : Env} {s : Nat → AV} {a : Act} (h : ∀ i, RV E (s i) (a.tmps.getD i undef)) (x : Operand) : RV E (opv s x) (a.eval x) := by
  cases x with
  | tmp t => exact h t
  | const v => exact cv_ok v
  | global g => trivial
  | func f => exact ⟨_, rfl, [], trivial, rfl⟩

theorem idx_lt {i : Int} {n : Nat} (h : 0 ≤ i ∧ i < (n : Int)) : i.toNat < n := by omega
theorem addr_add (b o n : Nat) : (⟨b, o, none⟩ : Addr).add n = ⟨b, o + n, none⟩ := by unfold Addr.add; split <;> simp_all
theorem addr_add' {a : Addr} (h : a.spot = none) (n : Nat) : a.add n = ⟨a.block, a.off + n, none⟩ := by cases a; simp at h; subst h; exact addr_add _ _ _

/-- A block's part, told by a pointer. -/
theorem ptr_block {C : Ctx} {E : Env} {m : Mem} {U : Nat → Prop} (h : MR C E m U) {b : Nat} {p : List PS} {bt : BT} {k : Nat} {u : Ty} {o : Nat} (h1 : E.ρ b = some bt) (h2 : bt.base = some k) (h3 : partAt bt p u o) {y : AV}
    (hl : (m b).load p = some y) : y.has u = true ∧ ∃ cs el c d e, E.w.heap[k]? = some (.cells cs el (0, 0)) ∧ cs.toList = c ++ d ++ e ∧ c.length = o ∧ RC E y d := by
  have hb := h.blocks b
  cases hm : m b with
  | var t v =>
    rw [hm] at hb hl
    obtain ⟨hh, k', cs, el, hb, hc, hr⟩ := hb
    rw [h1] at hb; cases hb
    cases h2
    obtain ⟨h4, h5⟩ := h3
    obtain ⟨hy, c, d, e, hcs, hcl, hrd⟩ := load_sound p _ _ _ _ _ _ hh hr h4 h5 hl
    exact ⟨hy, cs, el, c, d, e, hc, hcs, hcl, hrd⟩
  | slab t xs =>
    rw [hm] at hb hl
    obtain ⟨_, hb⟩ := hb
    rcases hb with ⟨hb, _⟩ | ⟨k', cap, cs, el, css, rest, hb, hc, _, _, _, hall, hf⟩
    · rw [h1] at hb; cases hb; simp [BT.base] at h2
    · rw [h1] at hb; cases hb
      cases h2
      cases p with
      | nil => simp [partAt] at h3
      | cons s p =>
        cases s with
        | fld i => simp [partAt] at h3
        | idx i =>
          obtain ⟨q, h4, rfl, h5, h6, h7⟩ := h3
          have hi : i.toNat < xs.length := by omega
          obtain ⟨c, hcx, hd⟩ := hall.get i.toNat _ (List.getElem?_eq_getElem hi)
          have hlat : lat xs i = xs[i.toNat] := by simp [lat, List.getD, List.getElem?_eq_getElem hi]
          simp only [AB.load, hlat] at hl
          obtain ⟨z, hz, c', d', e', rfl, hl', hd'⟩ := Rd.at _ _ _ _ _ _ hd h4 h7
          simp only [hz] at hl
          cases hl
          have hfl := flatten_at hall.lens hcx
          have hlen : css.flatten.length = css.length * t.size := flatten_len hall.lens
          have hle : i.toNat * t.size ≤ css.flatten.length := by
            rw [hlen]; exact Nat.mul_le_mul_right _ (by rw [← hall.length]; omega)
          refine ⟨Ty.eqb_self u, cs, el, css.flatten.take (i.toNat * t.size) ++ c', d', e' ++ css.flatten.drop (i.toNat * t.size + t.size) ++ rest, hc, ?_, ?_, hd'⟩
          · rw [hf]
            conv => lhs; rw [hfl]
            simp
          · have e2 : (css.flatten.take (i.toNat * t.size)).length = i.toNat * t.size := by rw [List.length_take]; omega
            rw [List.length_append, e2, hl']
  | map x y mm => rw [hm] at hl; simp [AB.load] at hl
  | none => rw [hm] at hl; simp [AB.load] at hl
  | dead => rw [hm] at hl; simp [AB.load] at hl
/-- The kind of the part, by the block's own word. -/
theorem ptr_ty {C : Ctx} {E : Env} {m : Mem} {U : Nat → Prop} (h : MR C E m U) {b : Nat} {p : List PS} {bt : BT} {u v : Ty} {o : Nat} (h1 : E.ρ b = some bt) (h3 : partAt bt p u o) (ht : (m b).tyAt p = some v) : u = v := by
  have hb := h.blocks b
  cases hm : m b with
  | var t x =>
    rw [hm] at hb ht
    obtain ⟨_, k', cs, el, hb, _⟩ := hb
    rw [h1] at hb; cases hb
    obtain ⟨h4, h5⟩ := h3
    simp [AB.tyAt, h4] at ht; exact ht
  | slab t xs =>
    rw [hm] at hb ht
    obtain ⟨_, hb⟩ := hb
    rcases hb with ⟨hb, _⟩ | ⟨k', cap, cs, el, css, rest, hb, _⟩
    · rw [h1] at hb; cases hb; cases p <;> simp [partAt] at h3
    · rw [h1] at hb; cases hb
      cases p with
      | nil => simp [partAt] at h3
      | cons s p =>
        cases s with
        | fld i => simp [partAt] at h3
        | idx i => obtain ⟨q, h4, _⟩ := h3; simp [AB.tyAt, h4] at ht; exact ht
  | map x y mm => rw [hm] at ht; simp [AB.tyAt] at ht
  | none => rw [hm] at ht; simp [AB.tyAt] at ht
  | dead => rw [hm] at ht; simp [AB.tyAt] at ht

theorem cell_of_part {w : World} {k o : Nat} {cs : Array Value} {el : TypeId} {fr : Nat × Nat} {c d e : List Value} (h : w.heap[k]? = some (.cells cs el fr)) (hcs : cs.toList = c ++ d ++ e) (hc : c.length = o) :
    ∀ j v, d[j]? = some v → w.cell? ⟨k, o + j, none⟩ = some v := by
  intro j v hv
  have : cs[o + j]? = some v := by
    rw [← Array.getElem?_toList, hcs, ← hc, List.append_assoc, List.getElem?_append_right (by omega), Nat.add_sub_cancel_left, List.getElem?_append_left (List.getElem?_eq_some_iff.1 hv).1]
    exact hv
  simp [World.cell?, h, this]

section
variable {P : Program} {T : Tab} (hT : TabOK P T) {tid : Nat}
include hT
theorem run_loadVar' {e : TE} (h : T.get tid = some e) (w : World) {b o : Nat} {d : List Value} (hd : d.length = e.size) (h1 : e.agg = false → ∃ c, d = [c]) (hc : ∀ j v, d[j]? = some v → w.cell? ⟨b, o + j, none⟩ = some v) :
    (loadVar tid ⟨b, o, none⟩).run P w = .ok (pk e.agg d) w := by
  cases hg : e.agg with
  | true =>
    have := run_loadCells_list (P := P) w ⟨b, o, none⟩ d (fun j v hv => by rw [addr_add]; exact hc j v hv)
    rw [hd] at this
    simp [loadVar, run_isAgg' hT h, hg, run_sizeOf' hT h, this, pk]
  | false =>
    obtain ⟨c, rfl⟩ := h1 hg
    have := hc 0 c rfl
    simp only [Nat.add_zero] at this
    simp [loadVar, run_isAgg' hT h, hg, this, pk]
omit hT in
theorem hasE_cells {E : Env} {v : AV} {e : TE} {d : List Value} (hn : ∀ a b, e ≠ .ty (.prod a b)) (hu : e ≠ .ty .unit) (h : v.hasE e = true) (hr : RC E v d) : d.length = e.size ∧ v.isAgg = e.agg ∧ (e.agg = false → ∃ c, d = [c]) := by
  cases e with
  | ty t =>
    have h : v.has t = true := by cases v <;> simpa [AV.hasE] using h
    have ha := has_agg h (fun a b he => hn a b (by rw [he])) (fun he => hu (by rw [he]))
    refine ⟨has_cells h hr, ha, fun hg => ?_⟩
    refine hr.single (by rw [ha]; exact hg) ?_ ?_
    · rintro rfl; cases t <;> simp [AV.has] at h; exact hu rfl
    · rintro a l rfl; cases t <;> simp [AV.has] at h; exact hn _ _ rfl
  | mp k x =>
    cases v <;> simp [AV.hasE] at h
    obtain ⟨_, _, _, _, rfl⟩ := hr
    exact ⟨rfl, rfl, fun _ => ⟨_, rfl⟩⟩
  | one =>
    cases v <;> simp [AV.hasE] at h
    · obtain ⟨_, _, rfl, _⟩ := hr; exact ⟨rfl, rfl, fun _ => ⟨_, rfl⟩⟩
    · obtain ⟨_, _, _, _, _, _, _, rfl⟩ := hr; exact ⟨rfl, rfl, fun _ => ⟨_, rfl⟩⟩
    · obtain ⟨_, _, rfl⟩ := hr; exact ⟨rfl, rfl, fun _ => ⟨_, rfl⟩⟩
    · simp [RC] at hr; subst hr; exact ⟨rfl, rfl, fun _ => ⟨_, rfl⟩⟩
theorem tab_noprod {e : TE} (h : T.get tid = some e) : (∀ a b, e ≠ .ty (.prod a b)) ∧ e ≠ .ty .unit := by
  have := hT tid e h
  constructor
  · rintro a b rfl; exact this.1.elim
  · rintro rfl; exact this.1.elim

theorem loadK_ok {R : Type} {C : Ctx} {m : Mem} {U : Nat → Prop} {x : AV} {K : AV → Option R} {y : R} (h : loadK T tid m x K = some y) :
    ∃ v, K v = some y ∧ ∀ E a, RV E x a → MR C E m U → ∃ z, (Instr.loadAt tid a).run P E.w = .ok z E.w ∧ RV E v z := by
  unfold loadK at h
  split at h
  · rename_i e b p he
    split at h
    · rename_i v hl
      split at h
      · rename_i hh
        refine ⟨v, h, fun E a ha hm => ?_⟩
        obtain ⟨bt, k, u, o, h1, h2, h3, rfl⟩ := ha.ptr
        obtain ⟨_, cs, el, c, d, f, hc, hcs, hcl, hr⟩ := ptr_block hm h1 h2 h3 hl
        obtain ⟨hd, hg, hs⟩ := hasE_cells (tab_noprod hT he).1 (tab_noprod hT he).2 hh hr
        refine ⟨pk e.agg d, ?_, by rw [← hg]; exact RV.of hr⟩
        simp [Instr.loadAt, Instr.sureAddr, run_loadVar' hT he E.w hd hs (cell_of_part hc hcs hcl)]
      · cases h
    · cases h
  · rename_i t u a he
    split at h
    · rename_i a' ha'
      obtain ⟨e1, hx⟩ := cast?_some ha'
      subst e1; subst hx
      refine ⟨_, h, fun E v hv _ => ?_⟩
      obtain ⟨ad, c, rfl, hs, hi, hr, hcell⟩ := hv.eptr
      have hd := Rd.len _ _ _ hr
      cases ad with
      | mk b o sp =>
        simp only at hs; subst hs
        refine ⟨pk u.agg c, ?_, ⟨c, rfl, hr⟩⟩
        have := run_loadVar' hT he E.w (d := c) hd (fun hg => hr.single hg) hcell
        simp [Instr.loadAt, Instr.sureAddr, this]; rfl
    · cases h
  · cases h

theorem run_part {t : Ty} (h : T.get tid = some (.ty t)) (w : World) {cs c d e : List Value} (hcs : cs = c ++ d ++ e) (hd : d.length = t.size) (h1 : t.agg = false → ∃ x, d = [x]) :
    (part tid cs.toArray c.length).run P w = .ok (pk t.agg d) w := by
  cases hg : t.agg with
  | true =>
    have e1 : (cs.drop c.length).take t.size = d := by
      subst hcs
      rw [← hd]
      simp
    have hg' : TE.agg (.ty t) = true := hg
    simp [part, run_isAgg' hT h, hg', run_sizeOf' hT h, TE.size, pk]
    exact e1
  | false =>
    obtain ⟨x, rfl⟩ := h1 hg
    have hg' : TE.agg (.ty t) = false := hg
    have e1 : cs[c.length]? = some x := by subst hcs; simp
    simp [part, run_isAgg' hT h, hg', e1, pk]

theorem indexK_ok {R : Type} {x i : AV} {K : AV → Option R} {y : R} (h : indexK T tid x i K = some y) :
    ∃ v, K v = some y ∧ ∀ E a j, RV E x a → RV E i j → ∃ z, (Instr.index tid a j).run P E.w = .ok z E.w ∧ RV E v z := by
  unfold indexK at h
  split at h
  · rename_i k i s
    split at h
    · rename_i he
      unfold guardK at h
      cases hc : (decide (0 ≤ i) && decide (i < (s.size : Int))) with
      | false => rw [hc] at h; cases h
      | true =>
        rw [hc] at h
        simp at hc
        refine ⟨_, h, fun E a j ha hj => ?_⟩
        obtain ⟨rfl, _⟩ := ha.str
        obtain ⟨rfl, _⟩ := RV.int hj
        have hu : P.underlying tid = some .string := (hT tid _ he).1
        have hlt : i.toNat < s.size := idx_lt hc
        have e1 : s[i.toNat]? = some s[i.toNat] := by simp [hlt]
        refine ⟨.int .u8 (s[i.toNat]).toNat, ?_, ?_⟩
        · simp [Instr.index, asIntOf, run_underlying hu, hc.1, e1]
        · have e2 : bat s i = ((s[i.toNat]).toNat : Int) := by
            unfold bat
            rw [Array.getD_eq_getD_getElem?, Array.getElem?_eq_getElem (by exact hlt)]
            rfl
          rw [e2]
          refine RV.mkInt ?_
          have := UInt8.toNat_lt (s[i.toNat])
          exact Nat.ble_eq_true_of_le (by show _ ≤ 255; omega)
    · cases h
  · rename_i k i u a hns
    split at h
    · rename_i n e he
      split at h
      · rename_i a' ha'
        obtain ⟨e1, hx⟩ := cast?_some ha'
        subst e1; subst hx
        unfold guardK at h
        cases hc : (decide (0 ≤ i) && decide (i < (n : Int))) with
        | false => rw [hc] at h; cases h
        | true =>
          rw [hc] at h
          simp at hc
          refine ⟨_, h, fun E v j hv hj => ?_⟩
          obtain ⟨cs, rfl, hr⟩ := hv
          obtain ⟨rfl, _⟩ := RV.int hj
          obtain ⟨eid, hu, heid⟩ := (hT tid _ he).1
          have hr : Rd E.w E.imm (.arr n e) a cs := hr
          obtain ⟨z, hz, c, d, f, hcs, hcl, hd⟩ := Rd.at [.idx i] (.arr n e) a cs e (i.toNat * e.size + 0) hr (by simp [tyAt]) ⟨hc.1, hc.2, trivial⟩
          simp [getAt] at hz
          subst hz
          refine ⟨pk e.agg d, ?_, ⟨d, rfl, hd⟩⟩
          have hp := run_part hT heid E.w hcs (Rd.len _ _ _ hd) (fun hg => hd.single hg)
          rw [hcl, Nat.add_zero] at hp
          have e1 : pk (AV.val (.arr n e) a).isAgg cs = .agg cs.toArray := rfl
          rw [e1]
          simp [Instr.index, asIntOf, run_underlying hu, hc.1, hc.2, run_sizeOf' hT heid, TE.size, hp]
      · cases h
    · cases h
  · cases h

theorem fld_info {s : St} (h : T.get tid = some (.ty (.st s))) {i : Nat} {u : Ty} (hn : nthTy s.body i = some u) :
    ∃ fs f, P.underlying tid = some (.struct fs) ∧ fs[i]? = some f ∧ f.offset = nthOff s.body i ∧ T.get f.type = some (.ty u) ∧ u.size ≠ 0 := by
  obtain ⟨fs, hu, hf, _⟩ := (hT tid _ h).1
  have key : ∀ (l : List Field) (b : Ty) (o : Nat) (i : Nat), fldsOK T l o b → nthTy b i = some u → ∃ f, l[i]? = some f ∧ f.offset = o + nthOff b i ∧ T.get f.type = some (.ty u) ∧ u.size ≠ 0 := by
    intro l
    induction l with
    | nil => intro b o i h hn; cases b <;> simp [fldsOK] at h; cases i <;> simp [nthTy] at hn
    | cons f l ih =>
      intro b o i h hn
      cases b <;> simp only [fldsOK] at h <;> try exact h.elim
      obtain ⟨h1, h2, h3, h4, h5⟩ := h
      cases i with
      | zero => simp [nthTy] at hn; subst hn; exact ⟨f, by simp, by simp [nthOff, h1], h2, h4⟩
      | succ i =>
        obtain ⟨g, hg, ho, hgt⟩ := ih _ _ i h5 hn
        exact ⟨g, by simpa using hg, by simp [nthOff, ho]; omega, hgt⟩
  obtain ⟨f, hf1, hf2, hf3⟩ := key _ _ _ _ hf hn
  exact ⟨fs, f, hu, by simpa using hf1, by simpa using hf2, hf3⟩

omit hT in
theorem getNth_ty : ∀ {b : Ty} {x : b.den} {i : Nat} {d : Dyn}, getNth b x i = some d → nthTy b i = some d.t := by
  intro b
  induction b with
  | prod a b _ ihb =>
    intro x i d h
    cases i with
    | zero => simp [getNth] at h; subst h; rfl
    | succ i => exact ihb h
  | _ => intro x i d h; cases i <;> simp [getNth] at h

theorem fieldK_ok {R : Type} {x : AV} {i : Nat} {K : AV → Option R} {y : R} (h : fieldK T tid x i K = some y) :
    ∃ v, K v = some y ∧ ∀ E a, RV E x a → ∃ z, (Instr.field tid a i).run P E.w = .ok z E.w ∧ RV E v z := by
  unfold fieldK at h
  split at h
  · rename_i s he
    split at h
    · rename_i u a
      split at h
      · rename_i a' ha'
        obtain ⟨e1, hx⟩ := cast?_some ha'
        subst e1; subst hx
        split at h
        · rename_i d hd
          refine ⟨_, h, fun E v hv => ?_⟩
          obtain ⟨cs, rfl, hr⟩ := hv
          have hr : Rd E.w E.imm (.st s) a cs := hr
          rw [Rd.st] at hr
          have hn : nthTy s.body i = some d.t := getNth_ty hd
          obtain ⟨fs, f, hu, hf, ho, hft, _⟩ := fld_info hT he hn
          obtain ⟨z, hz, c, dd, e, hcs, hcl, hdr⟩ := Rd.nth _ _ _ _ _ hr hn
          have hz' : getNth s.body (s.unpack a) i = some d := hd
          rw [hz'] at hz
          have : d = ⟨d.t, z⟩ := Option.some.inj hz
          rw [this]
          refine ⟨pk d.t.agg dd, ?_, ⟨dd, rfl, hdr⟩⟩
          have hp := run_part hT hft E.w hcs (Rd.len _ _ _ hdr) (fun hg => hdr.single hg)
          rw [hcl, ← ho] at hp
          have e1 : pk (AV.val (.st s) a).isAgg cs = .agg cs.toArray := rfl
          rw [e1]
          simp [Instr.field, run_underlying hu, hf, asAgg, hp]
        · cases h
      · cases h
    · rename_i s' l
      split at h
      · rename_i v hb hv
        simp at hb
        have := St.no_inj hb.1; subst this
        refine ⟨v, h, fun E a ha => ?_⟩
        obtain ⟨cs, rfl, hr⟩ := ha
        have hr : RC E l cs := hr
        have hn : ∃ u, nthTy s.body i = some u := by
          have key : ∀ (l : AV) (b : Ty) (i : Nat), l.has b = true → nthAV l i = some v → ∃ u, nthTy b i = some u := by
            intro l
            induction l with
            | cons a l _ ihl =>
              intro b i hh hv
              cases b <;> simp [AV.has] at hh
              cases i with
              | zero => exact ⟨_, rfl⟩
              | succ i => exact ihl _ i hh.2 hv
            | _ => intro b i _ hv; cases i <;> simp [nthAV] at hv
          exact key l s.body i hb.2 hv
        obtain ⟨u, hn⟩ := hn
        obtain ⟨fs, f, hu, hf, ho, hft, _⟩ := fld_info hT he hn
        obtain ⟨hau, c, d, e, hcs, hcl, hd⟩ := RC.nth hb.2 hr hn hv
        have hnp := tab_noprod hT hft
        have ha := has_agg hau (fun a b he => hnp.1 a b (by rw [he])) (fun he => hnp.2 (by rw [he]))
        refine ⟨pk u.agg d, ?_, by rw [← ha]; exact RV.of hd⟩
        have hs : u.agg = false → ∃ x, d = [x] := fun hg => by
          refine hd.single (by rw [ha]; exact hg) ?_ ?_
          · rintro rfl; cases u <;> simp [AV.has] at hau; exact hnp.2 rfl
          · rintro a l rfl; cases u <;> simp [AV.has] at hau; exact hnp.1 _ _ rfl
        have hp := run_part hT hft E.w hcs (has_cells hau hd) hs
        rw [hcl, ← ho] at hp
        have e1 : pk (AV.agv s l).isAgg cs = .agg cs.toArray := rfl
        rw [e1]
        simp [Instr.field, run_underlying hu, hf, asAgg, hp]
      · cases h
    · cases h
  · cases h
end
end Go.Co
