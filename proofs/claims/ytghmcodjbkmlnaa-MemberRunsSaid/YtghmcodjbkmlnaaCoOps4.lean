/-
  Comparisons of values, texts, conversions, slices, lookups, lengths, literals of structs and arrays: what the model's run of them gives.
  Own text, for the claims about coterie.
-/
import Derived.Test.YtghmcodjbkmlnaaCoOps3
import Derived.Laws.Slices
import Derived.Laws.Concat
namespace Go.Co
open Go.RowKit

section
variable {P : Program} {T : Tab} (hT : TabOK P T) {tid : Nat}
include hT
omit hT in
theorem bool_of_iff {b : Bool} {p : Prop} {i : Decidable p} (h : b = true ↔ p) : b = @decide p i := by
  cases b with
  | true => simp [h.1 rfl]
  | false =>
    have : ¬ p := fun hp => by simpa using h.2 hp
    simp [this]
theorem eqOp_ok {R : Type} {op : BinOp} {t : Ty} {a b : t.den} {K : AV → Option R} {y : R} (he : T.get tid = some (.ty t)) (h : eqOp op t a b K = some y) :
    ∃ v, K v = some y ∧ ∀ (E : Env) (x z : Value) (ox oy : Operand), RV E (.val t a) x → RV E (.val t b) z → ∃ r, ((do eqGuard op tid ox oy x z; binOp op tid x z : Sem Value)).run P E.w = .ok r E.w ∧ RV E v r := by
  unfold eqOp at h
  split at h
  · cases h
  · cases h
  · rename_i hl hw
    have hw : t.wt ≤ 10000 := Nat.le_of_ble_eq_true hw
    have key : ∀ (E : Env) (x z : Value), RV E (.val t a) x → RV E (.val t b) z → ∃ r, (Op.equal tid x z).run P E.w = .ok r E.w ∧ (r = true ↔ a = b) := by
      rintro E x z ⟨c, rfl, hc⟩ ⟨d, rfl, hd⟩
      exact equalIn_ok hT 10000 t tid a b c d hw he hl hc hd
    have hg : ∀ (E : Env) (x z : Value) (ox oy : Operand), RV E (.val t a) x → RV E (.val t b) z → (eqGuard op tid ox oy x z).run P E.w = .ok () E.w := by
      rintro E x z ox oy ⟨c, rfl, hc⟩ ⟨d, rfl, hd⟩
      obtain ⟨hdsc, _, hgt⟩ := hT tid _ he
      cases t with
      | unit => exact hdsc.elim
      | prod u v => exact hdsc.elim
      | list u => simp [Ty.lists] at hl
      | int k => obtain ⟨rfl, _⟩ := Rd.int.1 hc; obtain ⟨rfl, _⟩ := Rd.int.1 hd; cases op <;> simp [eqGuard, pk, AV.isAgg, Ty.agg]
      | bool => have := Rd.bool.1 hc; subst this; have := Rd.bool.1 hd; subst this; cases op <;> simp [eqGuard, pk, AV.isAgg, Ty.agg]
      | str => obtain ⟨rfl, _⟩ := Rd.str.1 hc; obtain ⟨rfl, _⟩ := Rd.str.1 hd; cases op <;> simp [eqGuard, pk, AV.isAgg, Ty.agg]
      | arr n u => exact run_eqGuard_agg E.w op tid ox oy c.toArray d.toArray hgt
      | st s => exact run_eqGuard_agg E.w op tid ox oy c.toArray d.toArray hgt
    have hbin : ∀ (E : Env) (x z : Value), RV E (.val t a) x → RV E (.val t b) z → (op = .eql ∨ op = .neq) →
        (binOp op tid x z).run P E.w = ((Op.equal tid x z).run P E.w).andThen fun r w' => .ok (.bool (match op with | .eql => r | _ => !r)) w' := by
      rintro E x z ⟨c, rfl, hc⟩ ⟨d, rfl, hd⟩ hop
      obtain ⟨hdsc, _⟩ := hT tid _ he
      cases t with
      | unit => exact hdsc.elim
      | prod u v => exact hdsc.elim
      | list u => simp [Ty.lists] at hl
      | int k =>
        obtain ⟨rfl, _⟩ := Rd.int.1 hc; obtain ⟨rfl, _⟩ := Rd.int.1 hd
        have hu : P.underlying tid = some (.int k) := hdsc
        have e1 : (Op.equal tid (.int k a) (.int k b)).run P E.w = .ok (a == b) E.w := run_equalIn_int E.w 9999 tid k k a b hu
        show (binOp op tid (.int k a) (.int k b)).run P E.w = ((Op.equal tid (.int k a) (.int k b)).run P E.w).andThen _
        rw [e1]
        rcases hop with rfl | rfl <;> simp [binOp, Op.intCmp, bne]
      | bool =>
        have := Rd.bool.1 hc; subst this; have := Rd.bool.1 hd; subst this
        rcases hop with rfl | rfl <;> simp [binOp, pk, AV.isAgg, Ty.agg]
      | str =>
        obtain ⟨rfl, _⟩ := Rd.str.1 hc; obtain ⟨rfl, _⟩ := Rd.str.1 hd
        have hu : P.underlying tid = some .string := hdsc
        have e1 : (Op.equal tid (.string a) (.string b)).run P E.w = .ok (a.toList == b.toList) E.w := run_equalIn_string E.w 9999 tid a b hu
        show (binOp op tid (.string a) (.string b)).run P E.w = ((Op.equal tid (.string a) (.string b)).run P E.w).andThen _
        rw [e1]
        rcases hop with rfl | rfl <;> simp [binOp, Op.stringOp]
      | arr n u => rcases hop with rfl | rfl <;> simp [binOp, pk, AV.isAgg, Ty.agg]
      | st s => rcases hop with rfl | rfl <;> simp [binOp, pk, AV.isAgg, Ty.agg]
    split at h
    · refine ⟨_, h, fun E x z ox oy hx hz => ?_⟩
      obtain ⟨r, hr, hq⟩ := key E x z hx hz
      refine ⟨.bool r, ?_, by rw [← bool_of_iff hq]; exact RV.mkBool⟩
      simp [hg E x z ox oy hx hz, hbin E x z hx hz (.inl rfl), hr]
    · refine ⟨_, h, fun E x z ox oy hx hz => ?_⟩
      obtain ⟨r, hr, hq⟩ := key E x z hx hz
      refine ⟨.bool !r, ?_, by rw [← bool_of_iff hq]; exact RV.mkBool⟩
      simp [hg E x z ox oy hx hz, hbin E x z hx hz (.inr rfl), hr]
    · cases h
omit hT in
theorem strOp_ok {R : Type} {op : BinOp} {a b : ByteArray} {K : AV → Option R} {y : R} (h : strOp op a b K = some y) :
    ∃ v, K v = some y ∧ ∀ (E : Env) (x z : Value) (ox oy : Operand), RV E (.val .str a) x → RV E (.val .str b) z → ∃ r, ((do eqGuard op tid ox oy x z; binOp op tid x z : Sem Value)).run P E.w = .ok r E.w ∧ RV E v r := by
  unfold strOp at h
  split at h
  · obtain ⟨hc, h⟩ := guardK_some h
    have hc : a.size + b.size ≤ top := by simpa using hc
    refine ⟨_, h, fun E x z ox oy hx hz => ?_⟩
    obtain ⟨rfl, _⟩ := hx.str
    obtain ⟨rfl, _⟩ := hz.str
    refine ⟨.string (a ++ b), ?_, RV.mkStr (by simpa using hc)⟩
    have : a.size + b.size ≤ 9223372036854775807 := by unfold top at hc; omega
    simp [eqGuard, binOp, run_string_add_sum (P := P) (w := E.w) a b this]
  · unfold eqOp at h
    have key : ((a.toList == b.toList) = true) ↔ a = b := by
      rw [beq_iff_eq, ByteArray.toList_eq, ByteArray.toList_eq]
      constructor
      · intro h; exact ByteArray.ext (Array.toList_inj.1 h)
      · intro h; rw [h]
    split at h
    · cases h
    · cases h
    · split at h
      · refine ⟨_, h, fun E x z ox oy hx hz => ?_⟩
        obtain ⟨rfl, _⟩ := hx.str
        obtain ⟨rfl, _⟩ := hz.str
        refine ⟨.bool (a.toList == b.toList), ?_, by rw [← bool_of_iff key]; exact RV.mkBool⟩
        simp [eqGuard, binOp, Op.stringOp]
      · refine ⟨_, h, fun E x z ox oy hx hz => ?_⟩
        obtain ⟨rfl, _⟩ := hx.str
        obtain ⟨rfl, _⟩ := hz.str
        refine ⟨.bool (!(a.toList == b.toList)), ?_, by rw [← bool_of_iff key]; exact RV.mkBool⟩
        simp [eqGuard, binOp, Op.stringOp]
      · cases h
theorem binK_ok {R : Type} {op : BinOp} {e : TE} {x z : AV} {K : AV → Option R} {y : R} (he : T.get tid = some e) (h : binK op e x z K = some y) :
    ∃ v, K v = some y ∧ ∀ (E : Env) (a b : Value) (ox oy : Operand), RV E x a → RV E z b → ∃ r, ((do eqGuard op tid ox oy a b; binOp op tid a b : Sem Value)).run P E.w = .ok r E.w ∧ RV E v r := by
  unfold binK at h
  split at h
  · rename_i k a l b
    by_cases hk : inKind k a = true ∧ inKind l b = true
    · obtain ⟨v, hv, hr⟩ := intOp_ok (P := P) h hk.1 hk.2
      refine ⟨v, hv, fun E x z ox oy hx hz => ?_⟩
      obtain ⟨rfl, _⟩ := RV.int hx
      obtain ⟨rfl, _⟩ := RV.int hz
      exact hr E tid ox oy
    · -- no value is of such a number
      have hnone : ∀ E x z, RV E (.val (.int k) a) x → RV E (.val (.int l) b) z → False := fun E x z hx hz => hk ⟨(RV.int hx).2, (RV.int hz).2⟩
      have : ∃ v, K v = some y := by
        unfold intOp at h
        cases op <;> simp only at h <;> (repeat' split at h) <;> first
          | (cases h; done)
          | exact ⟨_, h⟩
          | exact ⟨_, (guardK_some h).2⟩
      obtain ⟨v, hv⟩ := this
      exact ⟨v, hv, fun E x z ox oy hx hz => (hnone E x z hx hz).elim⟩
  · exact strOp_ok h
  · rename_i t a u b _ _
    split at h
    · rename_i b' t' hb'
      split at h
      · rename_i heq
        have := Ty.eq_of_eqb heq; subst this
        obtain ⟨e1, hx⟩ := cast?_some hb'
        subst e1; subst hx
        exact eqOp_ok hT he h
      · cases h
    · cases h
  · cases h
omit hT in
theorem unK_ok {R : Type} {op : UnOp} {x : AV} {K : AV → Option R} {y : R} (h : unK op x K = some y) :
    ∃ v, K v = some y ∧ ∀ (E : Env) (a : Value), RV E x a → ∃ r, (Op.unary op a).run P E.w = .ok r E.w ∧ RV E v r := by
  unfold unK at h
  split at h
  · refine ⟨_, h, fun E a ha => ?_⟩
    rw [ha.bool]
    exact ⟨_, rfl, RV.mkBool⟩
  · refine ⟨_, h, fun E a ha => ?_⟩
    obtain ⟨rfl, _⟩ := RV.int ha
    exact ⟨_, rfl, RV.mkInt (inKind_wrap _ _)⟩
  · rename_i k n
    refine ⟨_, h, fun E a ha => ?_⟩
    obtain ⟨rfl, _⟩ := RV.int ha
    refine ⟨.int k (bw .xor k (match k.signed with | true => -1 | false => k.max) n), ?_, RV.mkInt (inKind_wrap _ _)⟩
    cases k <;> rfl
  · cases h
theorem convK_ok {R : Type} {src dst : Nat} {x : AV} {K : AV → Option R} {y : R} (h : convK T src dst x K = some y) :
    ∃ v, K v = some y ∧ ∀ (E : Env) (a : Value), RV E x a → ∃ r, (convert src dst a).run P E.w = .ok r E.w ∧ RV E v r := by
  unfold convK at h
  split at h
  · rename_i k1 k2 k n h1 h2
    refine ⟨_, h, fun E a ha => ?_⟩
    obtain ⟨rfl, _⟩ := RV.int ha
    have hu1 : P.underlying src = some (.int k1) := (hT _ _ h1).1
    have hu2 : P.underlying dst = some (.int k2) := (hT _ _ h2).1
    exact ⟨.int k2 (k2.wrap n), by simp [convert, run_underlying hu1, run_underlying hu2, Conv.intToInt], RV.mkInt (inKind_wrap _ _)⟩
  · rename_i s h1 h2
    refine ⟨_, h, fun E a ha => ?_⟩
    obtain ⟨rfl, hs⟩ := ha.str
    have hu1 : P.underlying src = some .string := (hT _ _ h1).1
    have hu2 : P.underlying dst = some .string := (hT _ _ h2).1
    exact ⟨.string s, by simp [convert, run_underlying hu1, run_underlying hu2], RV.mkStr hs⟩
  · cases h
end

/-! ### Slices of slices -/
theorem cut_list {α : Type} (xs : List α) (l h : Nat) : (xs.take h).drop l = (xs.drop l).take (h - l) := by
  rw [List.drop_take]
section
variable {P : Program} {T : Tab} (hT : TabOK P T) {tid : Nat}
include hT
omit hT in
theorem bounds_ok {isSlice : Bool} {len cap : Nat} {E : Env} {lo hi : Option AV} {lo' hi' : Option Value} {l h : Int}
    (hlo : (match lo with | none => some (0 : Int) | some (.val (.int _) l) => some l | _ => none) = some l) (hhi : (match hi with | none => some (len : Int) | some (.val (.int _) h) => some h | _ => none) = some h)
    (h1 : ∀ v, lo = some v → ∃ x, lo' = some x ∧ RV E v x) (h1' : lo = none → lo' = none) (h2 : ∀ v, hi = some v → ∃ x, hi' = some x ∧ RV E v x) (h2' : hi = none → hi' = none)
    (hl0 : 0 ≤ l) (hlh : l ≤ h) (hhl : h ≤ (len : Int)) (hlc : len ≤ cap) : (Instr.sliceBounds isSlice len cap lo' hi' none).run P E.w = .ok (l.toNat, h.toNat, cap) E.w := by
  have ehi : hi' = none ∧ h = len ∨ ∃ k, hi' = some (.int k h) := by
    cases hi with
    | none => simp at hhi; exact .inl ⟨h2' rfl, hhi.symm⟩
    | some v =>
      cases v <;> try (cases hhi; done)
      rename_i t x
      cases t <;> try (cases hhi; done)
      rename_i k
      obtain ⟨z, hz, hr⟩ := h2 _ rfl
      obtain ⟨rfl, _⟩ := RV.int hr
      have : (x : Int) = h := Option.some.inj hhi
      rw [this] at hz
      exact .inr ⟨k, hz⟩
  have elo : lo' = none ∧ l = 0 ∨ ∃ k, lo' = some (.int k l) := by
    cases lo with
    | none => simp at hlo; exact .inl ⟨h1' rfl, hlo.symm⟩
    | some v =>
      cases v <;> try (cases hlo; done)
      rename_i t x
      cases t <;> try (cases hlo; done)
      rename_i k
      obtain ⟨z, hz, hr⟩ := h1 _ rfl
      obtain ⟨rfl, _⟩ := RV.int hr
      have : (x : Int) = l := Option.some.inj hlo
      rw [this] at hz
      exact .inr ⟨k, hz⟩
  have hh : h ≤ (cap : Int) := by omega
  have hln : l ≤ (h.toNat : Int) := by omega
  rcases ehi with ⟨rfl, rfl⟩ | ⟨k, rfl⟩ <;> rcases elo with ⟨rfl, rfl⟩ | ⟨k', rfl⟩
  · simp [Instr.sliceBounds]
  · simp [Instr.sliceBounds, run_sliceBound (P := P) E.w k' l len .sliceB hl0 (by omega)]
  · simp [Instr.sliceBounds, run_sliceBound (P := P) E.w k h cap _ (by omega) hh]
  · simp [Instr.sliceBounds, run_sliceBound (P := P) E.w k h cap _ (by omega) hh, run_sliceBound (P := P) E.w k' l h.toNat .sliceB hl0 hln]
theorem sliceK_ok {R : Type} {C : Ctx} {m : Mem} {U : Nat → Prop} {x : AV} {lo hi : Option AV} {K : AV → Option R} {y : R} (h : sliceK T tid m x lo hi K = some y) :
    ∃ v, K v = some y ∧ ∀ E a lo' hi', RV E x a → (∀ v, lo = some v → ∃ x, lo' = some x ∧ RV E v x) → (lo = none → lo' = none) → (∀ v, hi = some v → ∃ x, hi' = some x ∧ RV E v x) → (hi = none → hi' = none) → MR C E m U →
      ∃ z, (Instr.sliceAt tid a lo' hi' none).run P E.w = .ok z E.w ∧ RV E v z := by
  unfold sliceK at h
  split at h
  · rename_i n e b p he
    obtain ⟨eid, hu, heid⟩ := (hT tid _ he).1
    split at h
    · rename_i t v hmb
      split at h
      · rename_i u q hty
        split at h
        · rename_i heq hb1 hb2
          have := Ty.eq_of_eqb heq; subst this
          refine ⟨_, h, fun E a lo' hi' ha _ hlo _ hhi hm => ?_⟩
          obtain ⟨bt, k, u, o, h1, h2, h3, rfl⟩ := ha.ptr
          have hbl := hm.blocks b
          rw [hmb] at hbl
          obtain ⟨_, k', cells, el, hb, _⟩ := hbl
          rw [h1] at hb; cases hb
          cases h2
          have h31 := h3.1
          rw [hty] at h31; cases h31
          rw [hlo rfl, hhi rfl]
          refine ⟨.slice (some ⟨k, q, none⟩) n n, ?_, ⟨_, rfl, k, t, n, e, q, h1, h3.1, h3.2, Nat.le_of_ble_eq_true hb1, Nat.le_of_ble_eq_true hb2, rfl⟩⟩
          have hz : (sizeOf eid).run P E.w = .ok e.size E.w := run_sizeOf' hT heid E.w
          by_cases hn : n = 0
          · subst hn; simp [Instr.sliceAt, run_underlying hu, Instr.sureAddr, Instr.sliceBounds, hz]
          · simp [Instr.sliceAt, run_underlying hu, Instr.sureAddr, Instr.sliceBounds, hz, addr_add]
        · cases h
      · cases h
    · cases h
  · rename_i s he
    have hu : P.underlying tid = some .string := (hT tid _ he).1
    split at h
    · rename_i l g hl hg
      obtain ⟨hc, h⟩ := guardK_some h
      simp only [Bool.and_eq_true, decide_eq_true_eq] at hc
      refine ⟨_, h, fun E a lo' hi' ha h1 h1' h2 h2' _ => ?_⟩
      obtain ⟨rfl, hs⟩ := ha.str
      have hb := bounds_ok (P := P) (isSlice := false) (cap := s.size) hl hg h1 h1' h2 h2' hc.1.1 hc.1.2 hc.2 (Nat.le_refl _)
      refine ⟨.string (s.extract l.toNat g.toNat), ?_, RV.mkStr ?_⟩
      · simp [Instr.sliceAt, Instr.slice, run_underlying hu, hb]
      · have : (s.extract l.toNat g.toNat).size ≤ s.size := by simp [ByteArray.size_extract]; omega
        omega
    · cases h
  · rename_i e u a he
    obtain ⟨eid, hu, heid⟩ := (hT tid _ he).1
    split at h
    · rename_i xs ha'
      obtain ⟨e1, hx⟩ := cast?_some ha'
      subst e1; subst hx
      split at h
      · rename_i l g hl hg
        obtain ⟨hc, h⟩ := guardK_some h
        simp only [Bool.and_eq_true, decide_eq_true_eq] at hc
        refine ⟨_, h, fun E v lo' hi' hv h1 h1' h2 h2' _ => ?_⟩
        obtain ⟨cs, rfl, hr⟩ := hv
        have hr : Rd E.w E.imm (.list e) a cs := hr
        obtain ⟨hb0, hr⟩ := Rd.list.1 hr
        have hz : (sizeOf eid).run P E.w = .ok e.size E.w := run_sizeOf' hT heid E.w
        have hlen : (((List.take g.toNat a).drop l.toNat).length : Nat) = g.toNat - l.toNat := by
          have : g.toNat ≤ List.length a := by have := hc.2; omega
          simp; omega
        rcases hr with ⟨rfl, hnil⟩ | ⟨ad, cap, css, rfl, hs, hlc, hcap, hall, him, hcell⟩
        · have hnil : a = [] := hnil
          subst hnil
          have hb := bounds_ok (P := P) (isSlice := true) (cap := 0) hl hg h1 h1' h2 h2' hc.1.1 hc.1.2 hc.2 (by simp)
          have hg0 : g.toNat = 0 := by have := hc.2; simp at this; omega
          have hl0 : l.toNat = 0 := by have := hc.1.2; omega
          refine ⟨.slice none 0 0, ?_, ⟨_, rfl, Rd.list.2 ⟨by simp, .inl ⟨rfl, by simp⟩⟩⟩⟩
          have e1 : pk (AV.val (.list e) []).isAgg [Value.slice none 0 0] = .slice none 0 0 := rfl
          rw [e1]
          simp only [List.length_nil] at hb
          simp [Instr.sliceAt, Instr.slice, run_underlying hu, hb, hz, hg0, hl0]
        · have hb := bounds_ok (P := P) (isSlice := true) (cap := cap) hl hg h1 h1' h2 h2' hc.1.1 hc.1.2 hc.2 hlc
          have e1 : pk (AV.val (.list e) a).isAgg [Value.slice (some ad) (List.length a) cap] = .slice (some ad) (List.length a) cap := rfl
          rw [e1]
          have hgl : g.toNat ≤ List.length a := by have := hc.2; omega
          have hlg : l.toNat ≤ g.toNat := by have := hc.1.2; omega
          have hbnd : (((List.take g.toNat a).drop l.toNat).length) * e.bytes ≤ top := by
            rw [hlen]; exact Nat.le_trans (Nat.mul_le_mul_right _ (by omega)) hb0
          refine ⟨.slice (some (if cap = l.toNat then ad else ad.add (l.toNat * e.size))) (g.toNat - l.toNat) (cap - l.toNat), ?_, ⟨[.slice (some (if cap = l.toNat then ad else ad.add (l.toNat * e.size))) (g.toNat - l.toNat) (cap - l.toNat)], rfl, Rd.list.2 ⟨hbnd, ?_⟩⟩⟩
          · simp [Instr.sliceAt, Instr.slice, run_underlying hu, hb, hz]
            split <;> simp_all
          · by_cases hcl : cap = l.toNat
            · have h0 : g.toNat - l.toNat = 0 := by omega
              have hnil : (List.take g.toNat a).drop l.toNat = [] := List.length_eq_zero_iff.1 (by rw [hlen, h0])
              refine .inr ⟨ad, cap - l.toNat, [], ?_, fun hne => absurd hnil hne, ?_, by omega, ?_, fun hne => absurd hnil hne, fun j v hv => by simp at hv⟩
              · rw [hlen, if_pos hcl]
              · rw [hlen]; omega
              · rw [hnil]; trivial
            · refine .inr ⟨ad.add (l.toNat * e.size), cap - l.toNat, (css.take g.toNat).drop l.toNat, ?_, ?_, ?_, by omega, (hall.take _).drop _, fun hne => ?_, fun j v hv => ?_⟩
              · rw [hlen, if_neg hcl]
              · intro hne
                rw [addr_add' (hs fun hn => hne (by rw [hn]; simp))]
              · rw [hlen]; omega
              · rw [addr_add' (hs fun hn => hne (by rw [hn]; simp))]
                exact him fun hn => hne (by rw [hn]; simp)
              · have hane : a ≠ [] := by
                  intro hn
                  have hl0 := hall.length
                  rw [hn] at hl0
                  have hc0 : css = [] := List.length_eq_zero_iff.1 hl0.symm
                  rw [hc0] at hv; simp at hv
                rw [addr_add' (hs hane)]
                have hlens : ∀ c ∈ css.take g.toNat, c.length = e.size := fun c hc => hall.lens c (List.mem_of_mem_take hc)
                rw [flatten_drop _ hlens, flatten_take _ hall.lens, List.getElem?_drop] at hv
                have := hcell (l.toNat * e.size + j) v (by
                  rw [List.getElem?_take] at hv
                  split at hv
                  · exact hv
                  · cases hv)
                simpa [Nat.add_assoc] using this
      · cases h
    · cases h
  · rename_i e b he
    obtain ⟨eid, hu, heid⟩ := (hT tid _ he).1
    split at h
    · rename_i u xs hmb
      split at h
      · rename_i heq
        have := Ty.eq_of_eqb heq; subst this
        refine ⟨_, h, fun E a lo' hi' ha _ hlo _ hhi hm => ?_⟩
        rw [hlo rfl, hhi rfl]
        obtain ⟨cs, rfl, hr⟩ := ha
        have hz : (sizeOf eid).run P E.w = .ok u.size E.w := run_sizeOf' hT heid E.w
        have hrr := hr
        rcases hr with ⟨t', hb', rfl⟩ | ⟨k2, t', cap', len, hb', rfl⟩
        · refine ⟨.slice none 0 0, ?_, ⟨_, rfl, .inl ⟨t', hb', rfl⟩⟩⟩
          have e1 : pk (AV.sl b).isAgg [Value.slice none 0 0] = .slice none 0 0 := rfl
          rw [e1]
          simp [Instr.sliceAt, Instr.slice, run_underlying hu, Instr.sliceBounds, hz]
        · refine ⟨.slice (some ⟨k2, 0, none⟩) len cap', ?_, ⟨_, rfl, .inr ⟨k2, t', cap', len, hb', rfl⟩⟩⟩
          have e1 : pk (AV.sl b).isAgg [Value.slice (some ⟨k2, 0, none⟩) len cap'] = .slice (some ⟨k2, 0, none⟩) len cap' := rfl
          rw [e1]
          by_cases hn : cap' = 0
          · subst hn; simp [Instr.sliceAt, Instr.slice, run_underlying hu, Instr.sliceBounds, hz]
          · simp [Instr.sliceAt, Instr.slice, run_underlying hu, Instr.sliceBounds, hz, hn, addr_add]
      · cases h
    · cases h
  · cases h
end
end Go.Co
