/-
  Addresses, whole numbers, comparisons, conversions, slices: what the model's run of them gives.
  Own text, for the claims about coterie.
-/
import Derived.Test.YtghmcodjbkmlnaaCoOps1
namespace Go.Co
open Go.RowKit

/-! ### Ways to parts, one step longer -/
theorem tyAt_snoc_fld : ∀ {p : List PS} {t : Ty} {s : St} {o i : Nat} {u : Ty}, tyAt t p = some (.st s, o) → nthTy s.body i = some u → tyAt t (p.snoc (.fld i)) = some (u, o + nthOff s.body i) := by
  intro p
  induction p with
  | nil => intro t s o i u h hn; simp [tyAt] at h; obtain ⟨rfl, rfl⟩ := h; simp [List.snoc, tyAt, hn]
  | cons q p ih =>
    intro t s o i u h hn
    cases q with
    | fld j =>
      cases t <;> simp [tyAt] at h
      rename_i s'
      cases hj : nthTy s'.body j with
      | none => simp [hj] at h
      | some v =>
        simp only [hj] at h
        cases ha : tyAt v p with
        | none => simp [ha] at h
        | some vo =>
          obtain ⟨u', o'⟩ := vo
          simp [ha] at h
          obtain ⟨rfl, rfl⟩ := h
          simp [List.snoc, tyAt, hj, ih ha hn, Nat.add_assoc]
    | idx j =>
      cases t <;> simp [tyAt] at h
      rename_i n t
      cases ha : tyAt t p with
      | none => simp [ha] at h
      | some vo =>
        obtain ⟨u', o'⟩ := vo
        simp [ha] at h
        obtain ⟨rfl, rfl⟩ := h
        simp [List.snoc, tyAt, ih ha hn, Nat.add_assoc]
theorem tyAt_snoc_idx : ∀ {p : List PS} {t : Ty} {n : Nat} {e : Ty} {o : Nat} {i : Int}, tyAt t p = some (.arr n e, o) → tyAt t (p.snoc (.idx i)) = some (e, o + i.toNat * e.size) := by
  intro p
  induction p with
  | nil => intro t n e o i h; simp [tyAt] at h; obtain ⟨rfl, rfl⟩ := h; simp [List.snoc, tyAt]
  | cons q p ih =>
    intro t n e o i h
    cases q with
    | fld j =>
      cases t <;> simp [tyAt] at h
      rename_i s'
      cases hj : nthTy s'.body j with
      | none => simp [hj] at h
      | some v =>
        simp only [hj] at h
        cases ha : tyAt v p with
        | none => simp [ha] at h
        | some vo =>
          obtain ⟨u', o'⟩ := vo
          simp [ha] at h
          obtain ⟨rfl, rfl⟩ := h
          simp [List.snoc, tyAt, hj, ih ha, Nat.add_assoc]
    | idx j =>
      cases t <;> simp [tyAt] at h
      rename_i n t
      cases ha : tyAt t p with
      | none => simp [ha] at h
      | some vo =>
        obtain ⟨u', o'⟩ := vo
        simp [ha] at h
        obtain ⟨rfl, rfl⟩ := h
        simp [List.snoc, tyAt, ih ha, Nat.add_assoc]
theorem inRange_snoc_fld : ∀ {p : List PS} {t : Ty} {s : St} {o i : Nat} {u : Ty}, tyAt t p = some (.st s, o) → inRange t p → nthTy s.body i = some u → inRange t (p.snoc (.fld i)) := by
  intro p
  induction p with
  | nil => intro t s o i u h _ hn; simp [tyAt] at h; obtain ⟨rfl, rfl⟩ := h; simp [List.snoc, inRange, hn]
  | cons q p ih =>
    intro t s o i u h hr hn
    cases q with
    | fld j =>
      cases t <;> simp [tyAt] at h
      rename_i s'
      cases hj : nthTy s'.body j with
      | none => simp [hj] at h
      | some v =>
        simp only [hj] at h
        cases ha : tyAt v p with
        | none => simp [ha] at h
        | some vo =>
          obtain ⟨u', o'⟩ := vo
          simp [ha] at h
          obtain ⟨rfl, rfl⟩ := h
          simp [inRange, hj] at hr
          simpa [List.snoc, inRange, hj] using ih ha hr hn
    | idx j =>
      cases t <;> simp [tyAt] at h
      rename_i n t
      cases ha : tyAt t p with
      | none => simp [ha] at h
      | some vo =>
        obtain ⟨u', o'⟩ := vo
        simp [ha] at h
        obtain ⟨rfl, rfl⟩ := h
        exact ⟨hr.1, hr.2.1, ih ha hr.2.2 hn⟩
theorem inRange_snoc_idx : ∀ {p : List PS} {t : Ty} {n : Nat} {e : Ty} {o : Nat} {i : Int}, tyAt t p = some (.arr n e, o) → inRange t p → 0 ≤ i → i < n → inRange t (p.snoc (.idx i)) := by
  intro p
  induction p with
  | nil => intro t n e o i h _ h0 h1; simp [tyAt] at h; obtain ⟨rfl, rfl⟩ := h; exact ⟨h0, h1, trivial⟩
  | cons q p ih =>
    intro t n e o i h hr h0 h1
    cases q with
    | fld j =>
      cases t <;> simp [tyAt] at h
      rename_i s'
      cases hj : nthTy s'.body j with
      | none => simp [hj] at h
      | some v =>
        simp only [hj] at h
        cases ha : tyAt v p with
        | none => simp [ha] at h
        | some vo =>
          obtain ⟨u', o'⟩ := vo
          simp [ha] at h
          obtain ⟨rfl, rfl⟩ := h
          simp [inRange, hj] at hr
          simpa [List.snoc, inRange, hj] using ih ha hr h0 h1
    | idx j =>
      cases t <;> simp [tyAt] at h
      rename_i n t
      cases ha : tyAt t p with
      | none => simp [ha] at h
      | some vo =>
        obtain ⟨u', o'⟩ := vo
        simp [ha] at h
        obtain ⟨rfl, rfl⟩ := h
        exact ⟨hr.1, hr.2.1, ih ha hr.2.2 h0 h1⟩
theorem partAt_fld {bt : BT} {p : List PS} {s : St} {o i : Nat} {u : Ty} (h : partAt bt p (.st s) o) (hn : nthTy s.body i = some u) : partAt bt (p.snoc (.fld i)) u (o + nthOff s.body i) := by
  cases bt with
  | var b t => exact ⟨tyAt_snoc_fld h.1 hn, inRange_snoc_fld h.1 h.2 hn⟩
  | slab b t cap len =>
    cases p with
    | nil => exact h.elim
    | cons q p =>
      cases q with
      | fld j => exact h.elim
      | idx j =>
        obtain ⟨q, h1, h2, h3, h4, h5⟩ := h
        exact ⟨q + nthOff s.body i, tyAt_snoc_fld h1 hn, by omega, h3, h4, inRange_snoc_fld h1 h5 hn⟩
  | _ => cases p <;> exact h.elim
theorem partAt_idx {bt : BT} {p : List PS} {n : Nat} {e : Ty} {o : Nat} {i : Int} (h : partAt bt p (.arr n e) o) (h0 : 0 ≤ i) (hi : i < n) : partAt bt (p.snoc (.idx i)) e (o + i.toNat * e.size) := by
  cases bt with
  | var b t => exact ⟨tyAt_snoc_idx h.1, inRange_snoc_idx h.1 h.2 h0 hi⟩
  | slab b t cap len =>
    cases p with
    | nil => exact h.elim
    | cons q p =>
      cases q with
      | fld j => exact h.elim
      | idx j =>
        obtain ⟨q, h1, h2, h3, h4, h5⟩ := h
        exact ⟨q + i.toNat * e.size, tyAt_snoc_idx h1, by omega, h3, h4, inRange_snoc_idx h1 h5 h0 hi⟩
  | _ => cases p <;> exact h.elim

theorem guardK_some {R : Type} {c : Bool} {r : Option R} {y : R} (h : guardK c r = some y) : c = true ∧ r = some y := by
  cases c with
  | false => cases h
  | true => exact ⟨rfl, h⟩

section
variable {P : Program} {T : Tab} (hT : TabOK P T) {tid : Nat}
include hT
theorem fieldAddrK_ok {R : Type} {C : Ctx} {m : Mem} {U : Nat → Prop} {x : AV} {i : Nat} {K : AV → Option R} {y : R} (h : fieldAddrK T tid m x i K = some y) :
    ∃ v, K v = some y ∧ ∀ E a, RV E x a → MR C E m U → ∃ z, (Instr.fieldAt tid a i).run P E.w = .ok z E.w ∧ RV E v z := by
  unfold fieldAddrK at h
  split at h
  · rename_i s he
    split at h
    · rename_i u' hn
      obtain ⟨fs, f, hu, hf, ho, hft, hsz⟩ := fld_info hT he hn
      split at h
      · rename_i b p
        split at h
        · rename_i u hty
          split at h
          · rename_i heq
            have := Ty.eq_of_eqb heq; subst this
            refine ⟨_, h, fun E a ha hm => ?_⟩
            obtain ⟨bt, k, u, o, h1, h2, h3, rfl⟩ := ha.ptr
            have := ptr_ty hm h1 h3 hty; subst this
            refine ⟨.pointer (some ⟨k, o + nthOff s.body i, none⟩), ?_, RV.mkPtr h1 h2 (partAt_fld h3 hn)⟩
            have hz : (sizeOf f.type).run P E.w = .ok u'.size E.w := run_sizeOf' hT hft E.w
            simp [Instr.fieldAt, run_underlying hu, hf, Instr.sureAddr, fieldPlace, hz, hsz, addr_add, ho]
          · cases h
        · cases h
      · rename_i u a
        split at h
        · rename_i a' ha'
          obtain ⟨e1, hx⟩ := cast?_some ha'
          subst e1; subst hx
          split at h
          · rename_i d hd
            refine ⟨_, h, fun E v hv _ => ?_⟩
            obtain ⟨ad, c, rfl, hs, hi, hr, hcell⟩ := hv.eptr
            have hr : Rd E.w E.imm (.st s) a c := hr
            rw [Rd.st] at hr
            have hd' : getNth s.body (s.unpack a) i = some d := hd
            have hn' := getNth_ty hd'
            rw [hn] at hn'; cases hn'
            obtain ⟨z, hz, c1, dd, e, hcs, hcl, hdr⟩ := Rd.nth _ _ _ _ _ hr hn
            rw [hd'] at hz
            have : d = ⟨d.t, z⟩ := Option.some.inj hz
            rw [this]
            cases ad with
            | mk b o sp =>
              simp only at hs; subst hs
              refine ⟨.pointer (some ⟨b, o + nthOff s.body i, none⟩), ?_, RV.mkEptr (c := dd) rfl hi hdr (fun j v hv => ?_)⟩
              · have hzz : (sizeOf f.type).run P E.w = .ok d.t.size E.w := run_sizeOf' hT hft E.w
                simp [Instr.fieldAt, run_underlying hu, hf, Instr.sureAddr, fieldPlace, hzz, hsz, addr_add, ho]
              · have := hcell (nthOff s.body i + j) v (by
                  rw [hcs, ← hcl, List.append_assoc, List.getElem?_append_right (by omega), Nat.add_sub_cancel_left, List.getElem?_append_left (List.getElem?_eq_some_iff.1 hv).1]
                  exact hv)
                simpa [Nat.add_assoc] using this
          · cases h
        · cases h
      · cases h
    · cases h
  · cases h

theorem indexAddrK_ok {R : Type} {C : Ctx} {m : Mem} {U : Nat → Prop} {x i : AV} {K : AV → Option R} {y : R} (h : indexAddrK T tid m x i K = some y) :
    ∃ v, K v = some y ∧ ∀ E a j, RV E x a → RV E i j → MR C E m U → ∃ z, (Instr.indexAt tid a j).run P E.w = .ok z E.w ∧ RV E v z := by
  unfold indexAddrK at h
  split at h
  · rename_i k i n e he
    obtain ⟨eid, hu, heid⟩ := (hT tid _ he).1
    split at h
    · rename_i b p
      split at h
      · rename_i u hty
        split at h
        · rename_i heq
          have := Ty.eq_of_eqb heq; subst this
          obtain ⟨hc, h⟩ := guardK_some h
          simp only [Bool.and_eq_true, decide_eq_true_eq] at hc
          refine ⟨_, h, fun E a j ha hj hm => ?_⟩
          obtain ⟨bt, k', u, o, h1, h2, h3, rfl⟩ := ha.ptr
          have := ptr_ty hm h1 h3 hty; subst this
          obtain ⟨rfl, _⟩ := RV.int hj
          refine ⟨.pointer (some ⟨k', o + i.toNat * e.size, none⟩), ?_, RV.mkPtr h1 h2 (partAt_idx h3 hc.1 hc.2)⟩
          have hz : (sizeOf eid).run P E.w = .ok e.size E.w := run_sizeOf' hT heid E.w
          simp [Instr.indexAt, asIntOf, run_underlying hu, Instr.sureAddr, hc.1, hc.2, hz, addr_add]
        · cases h
      · cases h
    · rename_i u a
      split at h
      · rename_i a' ha'
        obtain ⟨e1, hx⟩ := cast?_some ha'
        subst e1; subst hx
        obtain ⟨hc, h⟩ := guardK_some h
        simp only [Bool.and_eq_true, decide_eq_true_eq] at hc
        refine ⟨_, h, fun E v j hv hj _ => ?_⟩
        obtain ⟨ad, c, rfl, hs, hi, hr, hcell⟩ := hv.eptr
        obtain ⟨rfl, _⟩ := RV.int hj
        have hr : Rd E.w E.imm (.arr n e) a c := hr
        obtain ⟨z, hz, c1, d, f, hcs, hcl, hd⟩ := Rd.at [.idx i] (.arr n e) a c e (i.toNat * e.size + 0) hr (by simp [tyAt]) ⟨hc.1, hc.2, trivial⟩
        simp [getAt] at hz
        subst hz
        cases ad with
        | mk b o sp =>
          simp only at hs; subst hs
          refine ⟨.pointer (some ⟨b, o + i.toNat * e.size, none⟩), ?_, RV.mkEptr (c := d) rfl hi hd (fun j v hv => ?_)⟩
          · have hz : (sizeOf eid).run P E.w = .ok e.size E.w := run_sizeOf' hT heid E.w
            simp [Instr.indexAt, asIntOf, run_underlying hu, Instr.sureAddr, hc.1, hc.2, hz, addr_add]
          · have := hcell (i.toNat * e.size + j) v (by
              rw [hcs, show i.toNat * e.size = c1.length by omega, List.append_assoc, List.getElem?_append_right (by omega), Nat.add_sub_cancel_left, List.getElem?_append_left (List.getElem?_eq_some_iff.1 hv).1]
              exact hv)
            simpa [Nat.add_assoc] using this
      · cases h
    · cases h
  · rename_i k i e he
    obtain ⟨eid, hu, heid⟩ := (hT tid _ he).1
    split at h
    · rename_i u a
      split at h
      · rename_i xs ha'
        obtain ⟨e1, hx⟩ := cast?_some ha'
        subst e1; subst hx
        obtain ⟨hc, h⟩ := guardK_some h
        simp only [Bool.and_eq_true, decide_eq_true_eq] at hc
        refine ⟨_, h, fun E v j hv hj _ => ?_⟩
        obtain ⟨cs, rfl, hr⟩ := hv
        have hr : Rd E.w E.imm (.list e) a cs := hr
        obtain ⟨rfl, _⟩ := RV.int hj
        rw [Rd.list] at hr
        obtain ⟨_, hr⟩ := hr
        have hlt : i.toNat < List.length a := idx_lt hc
        rcases hr with ⟨_, hnil⟩ | ⟨ad, cap, css, rfl, hs, hlc, hcap, hall, him, hcell⟩
        · have hnil : a = [] := hnil
          rw [hnil] at hlt; simp at hlt
        · obtain ⟨c, hcx, hd⟩ := hall.get i.toNat _ (List.getElem?_eq_getElem hlt)
          have hlat : lat a i = a[i.toNat] := by simp [lat, List.getD, List.getElem?_eq_getElem hlt]
          rw [hlat]
          cases ad with
          | mk b o sp =>
            have hs := hs (by intro hn; rw [hn] at hlt; simp at hlt)
            simp only at hs; subst hs
            refine ⟨.pointer (some ⟨b, o + i.toNat * e.size, none⟩), ?_, RV.mkEptr (c := c) rfl (him (by intro hn; rw [hn] at hlt; simp at hlt)) hd (fun j v hv => ?_)⟩
            · have hz : (sizeOf eid).run P E.w = .ok e.size E.w := run_sizeOf' hT heid E.w
              have e1 : pk (AV.val (.list e) a).isAgg [Value.slice (some ⟨b, o, none⟩) (List.length a) cap] = .slice (some ⟨b, o, none⟩) (List.length a) cap := rfl
              rw [e1]
              simp [Instr.indexAt, asIntOf, run_underlying hu, hc.1, hc.2, hz, addr_add]
            · have hfl := flatten_at hall.lens hcx
              have hlen : css.flatten.length = css.length * e.size := flatten_len hall.lens
              have hle : i.toNat * e.size ≤ css.flatten.length := by
                rw [hlen]; exact Nat.mul_le_mul_right _ (by rw [← hall.length]; omega)
              have e2 : (css.flatten.take (i.toNat * e.size)).length = i.toNat * e.size := by rw [List.length_take]; omega
              have := hcell (i.toNat * e.size + j) v (by
                rw [hfl, List.append_assoc, List.getElem?_append_right (by omega), e2, Nat.add_sub_cancel_left, List.getElem?_append_left (List.getElem?_eq_some_iff.1 hv).1]
                exact hv)
              simpa [Nat.add_assoc] using this
      · cases h
    · rename_i b
      split at h
      · rename_i u xs hmb
        split at h
        · rename_i heq
          have := Ty.eq_of_eqb heq; subst this
          obtain ⟨hc, h⟩ := guardK_some h
          simp only [Bool.and_eq_true, decide_eq_true_eq] at hc
          refine ⟨_, h, fun E v j hv hj hm => ?_⟩
          obtain ⟨rfl, _⟩ := RV.int hj
          have hlt : i.toNat < List.length xs := idx_lt hc
          obtain ⟨cs, rfl, hr⟩ := hv
          have hb := hm.blocks b
          rw [hmb] at hb
          obtain ⟨_, hb⟩ := hb
          rcases hb with ⟨_, hnil⟩ | ⟨k', cap, cells, el, css, rest, hb, hcell, _⟩
          · have hnil : xs = [] := hnil
            rw [hnil] at hlt; simp at hlt
          · rcases hr with ⟨t', hb', _⟩ | ⟨k2, t', cap', len, hb', rfl⟩
            · rw [hb] at hb'; cases hb'
            · rw [hb] at hb'; cases hb'
              refine ⟨.pointer (some ⟨k', i.toNat * u.size, none⟩), ?_, RV.mkPtr hb rfl ⟨0, rfl, by simp, hc.1, hc.2, trivial⟩⟩
              have hz : (sizeOf eid).run P E.w = .ok u.size E.w := run_sizeOf' hT heid E.w
              have e1 : pk (AV.sl b).isAgg [Value.slice (some ⟨k', 0, none⟩) (List.length xs) cap] = .slice (some ⟨k', 0, none⟩) (List.length xs) cap := rfl
              rw [e1]
              simp [Instr.indexAt, asIntOf, run_underlying hu, hc.1, hc.2, hz, addr_add]
        · cases h
      · cases h
    · rename_i b p
      split at h
      · rename_i n u hty
        split at h
        · rename_i heq
          have := Ty.eq_of_eqb heq; subst this
          obtain ⟨hc, h⟩ := guardK_some h
          simp only [Bool.and_eq_true, decide_eq_true_eq] at hc
          refine ⟨_, h, fun E v j hv hj hm => ?_⟩
          obtain ⟨rfl, _⟩ := RV.int hj
          obtain ⟨cs, rfl, k', t', n', u', o, hb, hp1, hp2, _, _, rfl⟩ := hv
          have := ptr_ty hm (bt := .var k' t') hb ⟨hp1, hp2⟩ hty
          cases this
          refine ⟨.pointer (some ⟨k', o + i.toNat * u.size, none⟩), ?_, RV.mkPtr hb rfl (partAt_idx (bt := .var k' t') ⟨hp1, hp2⟩ hc.1 hc.2)⟩
          have hz : (sizeOf eid).run P E.w = .ok u.size E.w := run_sizeOf' hT heid E.w
          have e1 : pk (AV.asl b p).isAgg [Value.slice (some ⟨k', o, none⟩) n n] = .slice (some ⟨k', o, none⟩) n n := rfl
          rw [e1]
          simp [Instr.indexAt, asIntOf, run_underlying hu, hc.1, hc.2, hz, addr_add]
        · cases h
      · cases h
    · cases h
  · cases h
end

/-! ### Whole numbers -/
theorem inKind_iff {k : IntKind} {n : Int} : inKind k n = true ↔ k.min ≤ n ∧ n ≤ k.max := by
  cases n with
  | ofNat n => cases k <;> simp [inKind, maxOf, IntKind.min, IntKind.max, IntKind.signed, IntKind.bits, Nat.ble_eq] <;> omega
  | negSucc n => cases k <;> simp [inKind, maxOf, IntKind.min, IntKind.max, IntKind.signed, IntKind.bits, Nat.ble_eq] <;> omega
theorem inKind_wrap (k : IntKind) (n : Int) : inKind k (k.wrap n) = true := by
  rw [inKind_iff]
  cases k <;> simp only [IntKind.wrap, IntKind.min, IntKind.max, IntKind.signed, IntKind.bits] <;> simp <;> (try split) <;> omega
theorem inKind_shr {k : IntKind} {n : Int} (h : inKind k n = true) (j : Nat) : inKind k (n.fdiv (2 ^ j)) = true := by
  rw [inKind_iff] at *
  have hp : (0 : Int) < 2 ^ j := Int.pow_pos (by decide)
  rw [Int.fdiv_eq_ediv_of_nonneg _ (by omega)]
  have h1 : k.min ≤ 0 := by cases k <;> decide
  have h2 : 0 ≤ k.max := by cases k <;> decide
  constructor
  · by_cases hn : 0 ≤ n
    · have := Int.ediv_nonneg hn (Int.le_of_lt hp); omega
    · have : n ≤ n / 2 ^ j := by
        rw [Int.le_ediv_iff_mul_le hp]
        have h3 : n * 2 ^ j ≤ n * 1 := Int.mul_le_mul_of_nonpos_left (by omega) (by omega)
        omega
      omega
  · by_cases hn : 0 ≤ n
    · have := Int.ediv_le_self (2 ^ j) hn; omega
    · have : n / 2 ^ j < 0 := Int.ediv_neg_of_neg_of_pos (by omega) hp
      omega
theorem emod_le' {a b : Int} (ha : 0 ≤ a) (hb : 0 < b) : a % b ≤ a := by
  have h1 := Int.mul_ediv_add_emod a b
  have h2 := Int.mul_nonneg (Int.le_of_lt hb) (Int.ediv_nonneg ha (Int.le_of_lt hb))
  omega
theorem inKind_tmod {k : IntKind} {a b : Int} (h : inKind k a = true) : inKind k (a.tmod b) = true := by
  rw [inKind_iff] at *
  have h1 : k.min ≤ 0 := by cases k <;> decide
  have h2 : 0 ≤ k.max := by cases k <;> decide
  by_cases ha : 0 ≤ a
  · have h3 := Int.tmod_nonneg b ha
    have h4 : a.tmod b ≤ a := by
      have := Int.tmod_eq_emod_of_nonneg (b := b) ha
      rw [this]
      by_cases hb : b = 0
      · subst hb; simp
      · have h5 := Int.emod_nonneg a hb
        rcases Int.lt_trichotomy b 0 with hb' | hb' | hb'
        · rw [← Int.emod_neg]; exact emod_le' ha (by omega)
        · exact absurd hb' hb
        · exact emod_le' ha hb'
    omega
  · have e : a.tmod b = -((-a).tmod b) := by rw [Int.neg_tmod]; omega
    have h3 := Int.tmod_nonneg b (a := -a) (by omega)
    have h4 : (-a).tmod b ≤ -a := by
      have := Int.tmod_eq_emod_of_nonneg (b := b) (a := -a) (by omega)
      rw [this]
      by_cases hb : b = 0
      · subst hb; simp
      · rcases Int.lt_trichotomy b 0 with hb' | hb' | hb'
        · rw [← Int.emod_neg]; exact emod_le' (by omega) (by omega)
        · exact absurd hb' hb
        · exact emod_le' (by omega) hb'
    omega
end Go.Co
