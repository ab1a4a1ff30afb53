/-
  Comparisons of values, texts, conversions, slices, lookups, lengths, literals of structs and arrays: what the model's run of them gives.
  Maps, lengths, several results, functions as values, literals of structs and arrays.
  The operations that make memory or write it: variables, stores, maps, slices' literals, append; literals of structs and arrays.
  Literals of structs, arrays and slices; append.
  Appending to a row.
  Loops: what a state at the head of a loop holds, told as data; the rounds as a function over such data.
  One operation: what the model's run of it gives, calls to functions with a known answer among them.
  A frame and memory that fit a state.
  Regions whose operations come in any order that their edges allow: each order comes to the same state.
  Each order that the edges allow comes to the same state.
  No conditions. Own text, for the claims about coterie.
-/
import Derived.Laws.Slices
import Derived.Laws.Concat
import Derived.Laws.AppendOwn
import Derived.Laws.Tables
import Derived.Laws.BytesString
import Derived.Orders
import Derived.Test.YtghlolinkmlkeaaGreatDoorPartA

section
namespace Go.Co
open Go.RowKit

section
variable {P : Program} {T : Tab} (hT : TabOK P T) {tid : Nat}
include hT
omit hT in
theorem bool_of_iff {b : Bool} {p : Prop} {i : Decidable p} (h : b = true ↔ p) : b = @decide p i := by
  cases b with
  | true => simp [h.1 rfl]
  | false =>
    have : ¬ p := fun hp => by simpa using h.2 hp
    simp [this]
theorem eqOp_ok {R : Type} {op : BinOp} {t : Ty} {a b : t.den} {K : AV → Option R} {y : R} (he : T.get tid = some (.ty t)) (h : eqOp op t a b K = some y) :
    ∃ v, K v = some y ∧ ∀ (E : Env) (x z : Value) (ox oy : Operand), RV E (.val t a) x → RV E (.val t b) z → ∃ r, ((do eqGuard op tid ox oy x z; binOp op tid x z : Sem Value)).run P E.w = .ok r E.w ∧ RV E v r := by
  unfold eqOp at h
  split at h
  · cases h
  · cases h
  · rename_i hl hw
    have hw : t.wt ≤ 10000 := Nat.le_of_ble_eq_true hw
    have key : ∀ (E : Env) (x z : Value), RV E (.val t a) x → RV E (.val t b) z → ∃ r, (Op.equal tid x z).run P E.w = .ok r E.w ∧ (r = true ↔ a = b) := by
      rintro E x z ⟨c, rfl, hc⟩ ⟨d, rfl, hd⟩
      exact equalIn_ok hT 10000 t tid a b c d hw he hl hc hd
    have hg : ∀ (E : Env) (x z : Value) (ox oy : Operand), RV E (.val t a) x → RV E (.val t b) z → (eqGuard op tid ox oy x z).run P E.w = .ok () E.w := by
      rintro E x z ox oy ⟨c, rfl, hc⟩ ⟨d, rfl, hd⟩
      obtain ⟨hdsc, _, hgt⟩ := hT tid _ he
      cases t with
      | unit => exact hdsc.elim
      | prod u v => exact hdsc.elim
      | list u => simp [Ty.lists] at hl
      | int k => obtain ⟨rfl, _⟩ := Rd.int.1 hc; obtain ⟨rfl, _⟩ := Rd.int.1 hd; cases op <;> simp [eqGuard, pk, AV.isAgg, Ty.agg]
      | bool => have := Rd.bool.1 hc; subst this; have := Rd.bool.1 hd; subst this; cases op <;> simp [eqGuard, pk, AV.isAgg, Ty.agg]
      | str => obtain ⟨rfl, _⟩ := Rd.str.1 hc; obtain ⟨rfl, _⟩ := Rd.str.1 hd; cases op <;> simp [eqGuard, pk, AV.isAgg, Ty.agg]
      | arr n u => exact run_eqGuard_agg E.w op tid ox oy c.toArray d.toArray hgt
      | st s => exact run_eqGuard_agg E.w op tid ox oy c.toArray d.toArray hgt
    have hbin : ∀ (E : Env) (x z : Value), RV E (.val t a) x → RV E (.val t b) z → (op = .eql ∨ op = .neq) →
        (binOp op tid x z).run P E.w = ((Op.equal tid x z).run P E.w).andThen fun r w' => .ok (.bool (match op with | .eql => r | _ => !r)) w' := by
      rintro E x z ⟨c, rfl, hc⟩ ⟨d, rfl, hd⟩ hop
      obtain ⟨hdsc, _⟩ := hT tid _ he
      cases t with
      | unit => exact hdsc.elim
      | prod u v => exact hdsc.elim
      | list u => simp [Ty.lists] at hl
      | int k =>
        obtain ⟨rfl, _⟩ := Rd.int.1 hc; obtain ⟨rfl, _⟩ := Rd.int.1 hd
        have hu : P.underlying tid = some (.int k) := hdsc
        have e1 : (Op.equal tid (.int k a) (.int k b)).run P E.w = .ok (a == b) E.w := run_equalIn_int E.w 9999 tid k k a b hu
        show (binOp op tid (.int k a) (.int k b)).run P E.w = ((Op.equal tid (.int k a) (.int k b)).run P E.w).andThen _
        rw [e1]
        rcases hop with rfl | rfl <;> simp [binOp, Op.intCmp, bne]
      | bool =>
        have := Rd.bool.1 hc; subst this; have := Rd.bool.1 hd; subst this
        rcases hop with rfl | rfl <;> simp [binOp, pk, AV.isAgg, Ty.agg]
      | str =>
        obtain ⟨rfl, _⟩ := Rd.str.1 hc; obtain ⟨rfl, _⟩ := Rd.str.1 hd
        have hu : P.underlying tid = some .string := hdsc
        have e1 : (Op.equal tid (.string a) (.string b)).run P E.w = .ok (a.toList == b.toList) E.w := run_equalIn_string E.w 9999 tid a b hu
        show (binOp op tid (.string a) (.string b)).run P E.w = ((Op.equal tid (.string a) (.string b)).run P E.w).andThen _
        rw [e1]
        rcases hop with rfl | rfl <;> simp [binOp, Op.stringOp]
      | arr n u => rcases hop with rfl | rfl <;> simp [binOp, pk, AV.isAgg, Ty.agg]
      | st s => rcases hop with rfl | rfl <;> simp [binOp, pk, AV.isAgg, Ty.agg]
    split at h
    · refine ⟨_, h, fun E x z ox oy hx hz => ?_⟩
      obtain ⟨r, hr, hq⟩ := key E x z hx hz
      refine ⟨.bool r, ?_, by rw [← bool_of_iff hq]; exact RV.mkBool⟩
      simp [hg E x z ox oy hx hz, hbin E x z hx hz (.inl rfl), hr]
    · refine ⟨_, h, fun E x z ox oy hx hz => ?_⟩
      obtain ⟨r, hr, hq⟩ := key E x z hx hz
      refine ⟨.bool !r, ?_, by rw [← bool_of_iff hq]; exact RV.mkBool⟩
      simp [hg E x z ox oy hx hz, hbin E x z hx hz (.inr rfl), hr]
    · cases h
omit hT in
theorem strOp_ok {R : Type} {op : BinOp} {a b : ByteArray} {K : AV → Option R} {y : R} (h : strOp op a b K = some y) :
    ∃ v, K v = some y ∧ ∀ (E : Env) (x z : Value) (ox oy : Operand), RV E (.val .str a) x → RV E (.val .str b) z → ∃ r, ((do eqGuard op tid ox oy x z; binOp op tid x z : Sem Value)).run P E.w = .ok r E.w ∧ RV E v r := by
  unfold strOp at h
  split at h
  · obtain ⟨hc, h⟩ := guardK_some h
    have hc : a.size + b.size ≤ top := by simpa using hc
    refine ⟨_, h, fun E x z ox oy hx hz => ?_⟩
    obtain ⟨rfl, _⟩ := hx.str
    obtain ⟨rfl, _⟩ := hz.str
    refine ⟨.string (a ++ b), ?_, RV.mkStr (by simpa using hc)⟩
    have : a.size + b.size ≤ 9223372036854775807 := by unfold top at hc; omega
    simp [eqGuard, binOp, run_string_add_sum (P := P) (w := E.w) a b this]
  · unfold eqOp at h
    have key : ((a.toList == b.toList) = true) ↔ a = b := by
      rw [beq_iff_eq, ByteArray.toList_eq, ByteArray.toList_eq]
      constructor
      · intro h; exact ByteArray.ext (Array.toList_inj.1 h)
      · intro h; rw [h]
    split at h
    · cases h
    · cases h
    · split at h
      · refine ⟨_, h, fun E x z ox oy hx hz => ?_⟩
        obtain ⟨rfl, _⟩ := hx.str
        obtain ⟨rfl, _⟩ := hz.str
        refine ⟨.bool (a.toList == b.toList), ?_, by rw [← bool_of_iff key]; exact RV.mkBool⟩
        simp [eqGuard, binOp, Op.stringOp]
      · refine ⟨_, h, fun E x z ox oy hx hz => ?_⟩
        obtain ⟨rfl, _⟩ := hx.str
        obtain ⟨rfl, _⟩ := hz.str
        refine ⟨.bool (!(a.toList == b.toList)), ?_, by rw [← bool_of_iff key]; exact RV.mkBool⟩
        simp [eqGuard, binOp, Op.stringOp]
      · cases h
theorem binK_ok {R : Type} {op : BinOp} {e : TE} {x z : AV} {K : AV → Option R} {y : R} (he : T.get tid = some e) (h : binK op e x z K = some y) :
    ∃ v, K v = some y ∧ ∀ (E : Env) (a b : Value) (ox oy : Operand), RV E x a → RV E z b → ∃ r, ((do eqGuard op tid ox oy a b; binOp op tid a b : Sem Value)).run P E.w = .ok r E.w ∧ RV E v r := by
  unfold binK at h
  split at h
  · rename_i k a l b
    by_cases hk : inKind k a = true ∧ inKind l b = true
    · obtain ⟨v, hv, hr⟩ := intOp_ok (P := P) h hk.1 hk.2
      refine ⟨v, hv, fun E x z ox oy hx hz => ?_⟩
      obtain ⟨rfl, _⟩ := RV.int hx
      obtain ⟨rfl, _⟩ := RV.int hz
      exact hr E tid ox oy
    · -- no value is of such a number
      have hnone : ∀ E x z, RV E (.val (.int k) a) x → RV E (.val (.int l) b) z → False := fun E x z hx hz => hk ⟨(RV.int hx).2, (RV.int hz).2⟩
      have : ∃ v, K v = some y := by
        unfold intOp at h
        cases op <;> simp only at h <;> (repeat' split at h) <;> first
          | (cases h; done)
          | exact ⟨_, h⟩
          | exact ⟨_, (guardK_some h).2⟩
      obtain ⟨v, hv⟩ := this
      exact ⟨v, hv, fun E x z ox oy hx hz => (hnone E x z hx hz).elim⟩
  · exact strOp_ok h
  · rename_i t a u b _ _
    split at h
    · rename_i b' t' hb'
      split at h
      · rename_i heq
        have := Ty.eq_of_eqb heq; subst this
        obtain ⟨e1, hx⟩ := cast?_some hb'
        subst e1; subst hx
        exact eqOp_ok hT he h
      · cases h
    · cases h
  · cases h
omit hT in
theorem unK_ok {R : Type} {op : UnOp} {x : AV} {K : AV → Option R} {y : R} (h : unK op x K = some y) :
    ∃ v, K v = some y ∧ ∀ (E : Env) (a : Value), RV E x a → ∃ r, (Op.unary op a).run P E.w = .ok r E.w ∧ RV E v r := by
  unfold unK at h
  split at h
  · refine ⟨_, h, fun E a ha => ?_⟩
    rw [ha.bool]
    exact ⟨_, rfl, RV.mkBool⟩
  · refine ⟨_, h, fun E a ha => ?_⟩
    obtain ⟨rfl, _⟩ := RV.int ha
    exact ⟨_, rfl, RV.mkInt (inKind_wrap _ _)⟩
  · rename_i k n
    refine ⟨_, h, fun E a ha => ?_⟩
    obtain ⟨rfl, _⟩ := RV.int ha
    refine ⟨.int k (bw .xor k (match k.signed with | true => -1 | false => k.max) n), ?_, RV.mkInt (inKind_wrap _ _)⟩
    cases k <;> rfl
  · cases h
theorem convK_ok {R : Type} {src dst : Nat} {x : AV} {K : AV → Option R} {y : R} (h : convK T src dst x K = some y) :
    ∃ v, K v = some y ∧ ∀ (E : Env) (a : Value), RV E x a → ∃ r, (convert src dst a).run P E.w = .ok r E.w ∧ RV E v r := by
  unfold convK at h
  split at h
  · rename_i k1 k2 k n h1 h2
    refine ⟨_, h, fun E a ha => ?_⟩
    obtain ⟨rfl, _⟩ := RV.int ha
    have hu1 : P.underlying src = some (.int k1) := (hT _ _ h1).1
    have hu2 : P.underlying dst = some (.int k2) := (hT _ _ h2).1
    exact ⟨.int k2 (k2.wrap n), by simp [convert, run_underlying hu1, run_underlying hu2, Conv.intToInt], RV.mkInt (inKind_wrap _ _)⟩
  · rename_i s h1 h2
    refine ⟨_, h, fun E a ha => ?_⟩
    obtain ⟨rfl, hs⟩ := ha.str
    have hu1 : P.underlying src = some .string := (hT _ _ h1).1
    have hu2 : P.underlying dst = some .string := (hT _ _ h2).1
    exact ⟨.string s, by simp [convert, run_underlying hu1, run_underlying hu2], RV.mkStr hs⟩
  · cases h
end

/-! ### Slices of slices -/
section
variable {P : Program} {T : Tab} (hT : TabOK P T) {tid : Nat}
include hT
omit hT in
theorem bounds_ok {isSlice : Bool} {len cap : Nat} {E : Env} {lo hi : Option AV} {lo' hi' : Option Value} {l h : Int}
    (hlo : (match lo with | none => some (0 : Int) | some (.val (.int _) l) => some l | _ => none) = some l) (hhi : (match hi with | none => some (len : Int) | some (.val (.int _) h) => some h | _ => none) = some h)
    (h1 : ∀ v, lo = some v → ∃ x, lo' = some x ∧ RV E v x) (h1' : lo = none → lo' = none) (h2 : ∀ v, hi = some v → ∃ x, hi' = some x ∧ RV E v x) (h2' : hi = none → hi' = none)
    (hl0 : 0 ≤ l) (hlh : l ≤ h) (hhl : h ≤ (len : Int)) (hlc : len ≤ cap) : (Instr.sliceBounds isSlice len cap lo' hi' none).run P E.w = .ok (l.toNat, h.toNat, cap) E.w := by
  have ehi : hi' = none ∧ h = len ∨ ∃ k, hi' = some (.int k h) := by
    cases hi with
    | none => simp at hhi; exact .inl ⟨h2' rfl, hhi.symm⟩
    | some v =>
      cases v <;> try (cases hhi; done)
      rename_i t x
      cases t <;> try (cases hhi; done)
      rename_i k
      obtain ⟨z, hz, hr⟩ := h2 _ rfl
      obtain ⟨rfl, _⟩ := RV.int hr
      have : (x : Int) = h := Option.some.inj hhi
      rw [this] at hz
      exact .inr ⟨k, hz⟩
  have elo : lo' = none ∧ l = 0 ∨ ∃ k, lo' = some (.int k l) := by
    cases lo with
    | none => simp at hlo; exact .inl ⟨h1' rfl, hlo.symm⟩
    | some v =>
      cases v <;> try (cases hlo; done)
      rename_i t x
      cases t <;> try (cases hlo; done)
      rename_i k
      obtain ⟨z, hz, hr⟩ := h1 _ rfl
      obtain ⟨rfl, _⟩ := RV.int hr
      have : (x : Int) = l := Option.some.inj hlo
      rw [this] at hz
      exact .inr ⟨k, hz⟩
  have hh : h ≤ (cap : Int) := by omega
  have hln : l ≤ (h.toNat : Int) := by omega
  rcases ehi with ⟨rfl, rfl⟩ | ⟨k, rfl⟩ <;> rcases elo with ⟨rfl, rfl⟩ | ⟨k', rfl⟩
  · simp [Instr.sliceBounds]
  · simp [Instr.sliceBounds, run_sliceBound (P := P) E.w k' l len .sliceB hl0 (by omega)]
  · simp [Instr.sliceBounds, run_sliceBound (P := P) E.w k h cap _ (by omega) hh]
  · simp [Instr.sliceBounds, run_sliceBound (P := P) E.w k h cap _ (by omega) hh, run_sliceBound (P := P) E.w k' l h.toNat .sliceB hl0 hln]
theorem sliceK_ok {R : Type} {C : Ctx} {m : Mem} {U : Nat → Prop} {x : AV} {lo hi : Option AV} {K : AV → Option R} {y : R} (h : sliceK T tid m x lo hi K = some y) :
    ∃ v, K v = some y ∧ ∀ E a lo' hi', RV E x a → (∀ v, lo = some v → ∃ x, lo' = some x ∧ RV E v x) → (lo = none → lo' = none) → (∀ v, hi = some v → ∃ x, hi' = some x ∧ RV E v x) → (hi = none → hi' = none) → MR C E m U →
      ∃ z, (Instr.sliceAt tid a lo' hi' none).run P E.w = .ok z E.w ∧ RV E v z := by
  unfold sliceK at h
  split at h
  · rename_i n e b p he
    obtain ⟨eid, hu, heid⟩ := (hT tid _ he).1
    split at h
    · rename_i t v hmb
      split at h
      · rename_i u q hty
        split at h
        · rename_i heq hb1 hb2
          have := Ty.eq_of_eqb heq; subst this
          refine ⟨_, h, fun E a lo' hi' ha _ hlo _ hhi hm => ?_⟩
          obtain ⟨bt, k, u, o, h1, h2, h3, rfl⟩ := ha.ptr
          have hbl := hm.blocks b
          rw [hmb] at hbl
          obtain ⟨_, k', cells, el, hb, _⟩ := hbl
          rw [h1] at hb; cases hb
          cases h2
          have h31 := h3.1
          rw [hty] at h31; cases h31
          rw [hlo rfl, hhi rfl]
          refine ⟨.slice (some ⟨k, q, none⟩) n n, ?_, ⟨_, rfl, k, t, n, e, q, h1, h3.1, h3.2, Nat.le_of_ble_eq_true hb1, Nat.le_of_ble_eq_true hb2, rfl⟩⟩
          have hz : (sizeOf eid).run P E.w = .ok e.size E.w := run_sizeOf' hT heid E.w
          by_cases hn : n = 0
          · subst hn; simp [Instr.sliceAt, run_underlying hu, Instr.sureAddr, Instr.sliceBounds, hz]
          · simp [Instr.sliceAt, run_underlying hu, Instr.sureAddr, Instr.sliceBounds, hz, addr_add]
        · cases h
      · cases h
    · cases h
  · rename_i s he
    have hu : P.underlying tid = some .string := (hT tid _ he).1
    split at h
    · rename_i l g hl hg
      obtain ⟨hc, h⟩ := guardK_some h
      simp only [Bool.and_eq_true, decide_eq_true_eq] at hc
      refine ⟨_, h, fun E a lo' hi' ha h1 h1' h2 h2' _ => ?_⟩
      obtain ⟨rfl, hs⟩ := ha.str
      have hb := bounds_ok (P := P) (isSlice := false) (cap := s.size) hl hg h1 h1' h2 h2' hc.1.1 hc.1.2 hc.2 (Nat.le_refl _)
      refine ⟨.string (s.extract l.toNat g.toNat), ?_, RV.mkStr ?_⟩
      · simp [Instr.sliceAt, Instr.slice, run_underlying hu, hb]
      · have : (s.extract l.toNat g.toNat).size ≤ s.size := by simp [ByteArray.size_extract]; omega
        omega
    · cases h
  · rename_i e u a he
    obtain ⟨eid, hu, heid⟩ := (hT tid _ he).1
    split at h
    · rename_i xs ha'
      obtain ⟨e1, hx⟩ := cast?_some ha'
      subst e1; subst hx
      split at h
      · rename_i l g hl hg
        obtain ⟨hc, h⟩ := guardK_some h
        simp only [Bool.and_eq_true, decide_eq_true_eq] at hc
        refine ⟨_, h, fun E v lo' hi' hv h1 h1' h2 h2' _ => ?_⟩
        obtain ⟨cs, rfl, hr⟩ := hv
        have hr : Rd E.w E.imm (.list e) a cs := hr
        obtain ⟨hb0, hr⟩ := Rd.list.1 hr
        have hz : (sizeOf eid).run P E.w = .ok e.size E.w := run_sizeOf' hT heid E.w
        have hlen : (((List.take g.toNat a).drop l.toNat).length : Nat) = g.toNat - l.toNat := by
          have : g.toNat ≤ List.length a := by have := hc.2; omega
          simp; omega
        rcases hr with ⟨rfl, hnil⟩ | ⟨ad, cap, css, rfl, hs, hlc, hcap, hall, him, hcell⟩
        · have hnil : a = [] := hnil
          subst hnil
          have hb := bounds_ok (P := P) (isSlice := true) (cap := 0) hl hg h1 h1' h2 h2' hc.1.1 hc.1.2 hc.2 (by simp)
          have hg0 : g.toNat = 0 := by have := hc.2; simp at this; omega
          have hl0 : l.toNat = 0 := by have := hc.1.2; omega
          refine ⟨.slice none 0 0, ?_, ⟨_, rfl, Rd.list.2 ⟨by simp, .inl ⟨rfl, by simp⟩⟩⟩⟩
          have e1 : pk (AV.val (.list e) []).isAgg [Value.slice none 0 0] = .slice none 0 0 := rfl
          rw [e1]
          simp only [List.length_nil] at hb
          simp [Instr.sliceAt, Instr.slice, run_underlying hu, hb, hz, hg0, hl0]
        · have hb := bounds_ok (P := P) (isSlice := true) (cap := cap) hl hg h1 h1' h2 h2' hc.1.1 hc.1.2 hc.2 hlc
          have e1 : pk (AV.val (.list e) a).isAgg [Value.slice (some ad) (List.length a) cap] = .slice (some ad) (List.length a) cap := rfl
          rw [e1]
          have hgl : g.toNat ≤ List.length a := by have := hc.2; omega
          have hlg : l.toNat ≤ g.toNat := by have := hc.1.2; omega
          have hbnd : (((List.take g.toNat a).drop l.toNat).length) * e.bytes ≤ top := by
            rw [hlen]; exact Nat.le_trans (Nat.mul_le_mul_right _ (by omega)) hb0
          refine ⟨.slice (some (if cap = l.toNat then ad else ad.add (l.toNat * e.size))) (g.toNat - l.toNat) (cap - l.toNat), ?_, ⟨[.slice (some (if cap = l.toNat then ad else ad.add (l.toNat * e.size))) (g.toNat - l.toNat) (cap - l.toNat)], rfl, Rd.list.2 ⟨hbnd, ?_⟩⟩⟩
          · simp [Instr.sliceAt, Instr.slice, run_underlying hu, hb, hz]
            split <;> simp_all
          · by_cases hcl : cap = l.toNat
            · have h0 : g.toNat - l.toNat = 0 := by omega
              have hnil : (List.take g.toNat a).drop l.toNat = [] := List.length_eq_zero_iff.1 (by rw [hlen, h0])
              refine .inr ⟨ad, cap - l.toNat, [], ?_, fun hne => absurd hnil hne, ?_, by omega, ?_, fun hne => absurd hnil hne, fun j v hv => by simp at hv⟩
              · rw [hlen, if_pos hcl]
              · rw [hlen]; omega
              · rw [hnil]; trivial
            · refine .inr ⟨ad.add (l.toNat * e.size), cap - l.toNat, (css.take g.toNat).drop l.toNat, ?_, ?_, ?_, by omega, (hall.take _).drop _, fun hne => ?_, fun j v hv => ?_⟩
              · rw [hlen, if_neg hcl]
              · intro hne
                rw [addr_add' (hs fun hn => hne (by rw [hn]; simp))]
              · rw [hlen]; omega
              · rw [addr_add' (hs fun hn => hne (by rw [hn]; simp))]
                exact him fun hn => hne (by rw [hn]; simp)
              · have hane : a ≠ [] := by
                  intro hn
                  have hl0 := hall.length
                  rw [hn] at hl0
                  have hc0 : css = [] := List.length_eq_zero_iff.1 hl0.symm
                  rw [hc0] at hv; simp at hv
                rw [addr_add' (hs hane)]
                have hlens : ∀ c ∈ css.take g.toNat, c.length = e.size := fun c hc => hall.lens c (List.mem_of_mem_take hc)
                rw [flatten_drop _ hlens, flatten_take _ hall.lens, List.getElem?_drop] at hv
                have := hcell (l.toNat * e.size + j) v (by
                  rw [List.getElem?_take] at hv
                  split at hv
                  · exact hv
                  · cases hv)
                simpa [Nat.add_assoc] using this
      · cases h
    · cases h
  · rename_i e b he
    obtain ⟨eid, hu, heid⟩ := (hT tid _ he).1
    split at h
    · rename_i u xs hmb
      split at h
      · rename_i heq
        have := Ty.eq_of_eqb heq; subst this
        refine ⟨_, h, fun E a lo' hi' ha _ hlo _ hhi hm => ?_⟩
        rw [hlo rfl, hhi rfl]
        obtain ⟨cs, rfl, hr⟩ := ha
        have hz : (sizeOf eid).run P E.w = .ok u.size E.w := run_sizeOf' hT heid E.w
        have hrr := hr
        rcases hr with ⟨t', hb', rfl⟩ | ⟨k2, t', cap', len, hb', rfl⟩
        · refine ⟨.slice none 0 0, ?_, ⟨_, rfl, .inl ⟨t', hb', rfl⟩⟩⟩
          have e1 : pk (AV.sl b).isAgg [Value.slice none 0 0] = .slice none 0 0 := rfl
          rw [e1]
          simp [Instr.sliceAt, Instr.slice, run_underlying hu, Instr.sliceBounds, hz]
        · refine ⟨.slice (some ⟨k2, 0, none⟩) len cap', ?_, ⟨_, rfl, .inr ⟨k2, t', cap', len, hb', rfl⟩⟩⟩
          have e1 : pk (AV.sl b).isAgg [Value.slice (some ⟨k2, 0, none⟩) len cap'] = .slice (some ⟨k2, 0, none⟩) len cap' := rfl
          rw [e1]
          by_cases hn : cap' = 0
          · subst hn; simp [Instr.sliceAt, Instr.slice, run_underlying hu, Instr.sliceBounds, hz]
          · simp [Instr.sliceAt, Instr.slice, run_underlying hu, Instr.sliceBounds, hz, hn, addr_add]
      · cases h
    · cases h
  · rename_i e b he hnn
    obtain ⟨eid, hu, heid⟩ := (hT tid _ he).1
    split at h
    · rename_i u xs hmb
      split at h
      · rename_i heq
        have := Ty.eq_of_eqb heq; subst this
        split at h
        · rename_i l g hl hg
          obtain ⟨hc, h⟩ := guardK_some h
          simp only [Bool.and_eq_true, decide_eq_true_eq] at hc
          refine ⟨_, h, fun E a lo' hi' ha h1 h1' h2 h2' hm => ?_⟩
          obtain ⟨cs, rfl, hr⟩ := ha
          have hz : (sizeOf eid).run P E.w = .ok u.size E.w := run_sizeOf' hT heid E.w
          have hbl := hm.blocks b
          rw [hmb] at hbl
          obtain ⟨_, hbl⟩ := hbl
          rcases hbl with ⟨hb, hnil⟩ | ⟨k', cap, cells, el, css, rest, hb, _, _, hlc, hcap, _⟩
          · rcases hr with ⟨t', hb', rfl⟩ | ⟨k2, t', cap', len, hb', rfl⟩
            · have hnil : xs = [] := hnil
              subst hnil
              have hbd := bounds_ok (P := P) (isSlice := true) (cap := 0) hl hg h1 h1' h2 h2' hc.1.1 hc.1.2 hc.2 (by simp)
              have hg0 : g = 0 := by have := hc.2; simp at this; omega
              have hl0 : l = 0 := by omega
              subst hg0; subst hl0
              refine ⟨.slice none 0 0, ?_, ⟨_, rfl, by omega, by omega, .inl ⟨t', hb', rfl, rfl⟩⟩⟩
              have e1 : pk (AV.sl b).isAgg [Value.slice none 0 0] = .slice none 0 0 := rfl
              rw [e1]
              simp only [List.length_nil] at hbd
              simp [Instr.sliceAt, Instr.slice, run_underlying hu, hbd, hz]
            · rw [hb] at hb'; cases hb'
          · rcases hr with ⟨t', hb', rfl⟩ | ⟨k2, t', cap', len, hb', rfl⟩
            · rw [hb] at hb'; cases hb'
            · rw [hb] at hb'; cases hb'
              have hbd := bounds_ok (P := P) (isSlice := true) (cap := cap) hl hg h1 h1' h2 h2' hc.1.1 hc.1.2 hc.2 hlc
              have e1 : pk (AV.sl b).isAgg [Value.slice (some ⟨k', 0, none⟩) (List.length xs) cap] = .slice (some ⟨k', 0, none⟩) (List.length xs) cap := rfl
              rw [e1]
              have hgl : g ≤ (List.length xs : Int) := hc.2
              refine ⟨.slice (some (if cap = l.toNat then ⟨k', 0, none⟩ else (⟨k', 0, none⟩ : Addr).add (l.toNat * u.size))) (g.toNat - l.toNat) (cap - l.toNat), ?_, ⟨_, rfl, hc.1.1, hc.1.2, .inr ⟨k', u, cap, _, _, cap - l.toNat, hb, hgl, by omega, by omega, by rw [show (g - l).toNat = g.toNat - l.toNat by omega], fun hlt => ?_⟩⟩⟩
              · simp [Instr.sliceAt, Instr.slice, run_underlying hu, hbd, hz]
                split <;> simp_all
              · rw [if_neg (by omega), addr_add]; simp
        · cases h
      · cases h
    · cases h
  · cases h
end
end Go.Co
end

section
namespace Go.Co
open Go.RowKit

section
variable {P : Program} {T : Tab} (hT : TabOK P T) {tid : Nat}
include hT
/-! ### Maps -/
theorem sameNow_ok {kt : Ty} {kid : Nat} (hs : simpleKey kt = true) (he : T.get kid = some (.ty kt)) : ∃ d, P.underlying kid = some d ∧ (∀ ms, d ≠ .interface ms) ∧ (∀ n e, d ≠ .array n e) ∧ (∀ fs, d ≠ .struct fs) ∧ kt.agg = false ∧
    ∀ {w w' : World} {im im' : Nat → Prop} {x y : kt.den} {c e : List Value}, Rd w im kt x c → Rd w' im' kt y e → Instr.sameNow d (pk kt.agg c) (pk kt.agg e) = some (@decide (x = y) (kt.decEq x y)) ∧ (x = y → Instr.sameBits 10000 (pk kt.agg c) (pk kt.agg e) = true) := by
  have hd := (hT kid _ he).1
  cases kt <;> simp [simpleKey] at hs
  · rename_i k
    refine ⟨.int k, hd, by simp, by simp, by simp, rfl, fun {w w' im im' x y c e} hx hy => ?_⟩
    obtain ⟨rfl, _⟩ := Rd.int.1 hx
    obtain ⟨rfl, _⟩ := Rd.int.1 hy
    constructor
    · show Instr.sameNow (.int k) (.int k x) (.int k y) = _
      simp only [Instr.sameNow, if_true]
      congr 1
    · intro h; subst h
      show Instr.sameBits 10000 (.int k x) (.int k x) = true
      simp [Instr.sameBits]
  · refine ⟨.bool, hd, by simp, by simp, by simp, rfl, fun {w w' im im' x y c e} hx hy => ?_⟩
    have := Rd.bool.1 hx; subst this
    have := Rd.bool.1 hy; subst this
    constructor
    · show Instr.sameNow .bool (.bool x) (.bool y) = _
      simp only [Instr.sameNow]
      congr 1
    · intro h; subst h
      show Instr.sameBits 10000 (.bool x) (.bool x) = true
      simp [Instr.sameBits]
  · refine ⟨.string, hd, by simp, by simp, by simp, rfl, fun {w w' im im' x y c e} hx hy => ?_⟩
    obtain ⟨rfl, _⟩ := Rd.str.1 hx
    obtain ⟨rfl, _⟩ := Rd.str.1 hy
    constructor
    · show Instr.sameNow .string (.string x) (.string y) = _
      simp only [Instr.sameNow]
      congr 1
      refine bool_of_iff ?_
      rw [beq_toListBytes, beq_iff_eq, ByteArray.toList_eq, ByteArray.toList_eq]
      constructor
      · intro h; exact ByteArray.ext (Array.toList_inj.1 h)
      · intro h; rw [h]
    · intro h; subst h
      show Instr.sameBits 10000 (.string x) (.string x) = true
      simp [Instr.sameBits, beq_toListBytes]
omit hT in
theorem mget_cons {α β : Type} [DecidableEq α] (e : α × β) (l : List (α × β)) (k : α) : mget (e :: l) k = if e.1 = k then some e.2 else mget l k := by
  by_cases h : e.1 = k <;> simp [mget, h]
theorem findNow_ok {kt vt : Ty} {kid : Nat} (hs : simpleKey kt = true) (he : T.get kid = some (.ty kt)) {E : Env} {x : kt.den} {c : List Value} (hx : Rd E.w E.imm kt x c) : ∀ (l : List (kt.den × vt.den)) (es : List MapEntry) (i : Nat), All2 (RE E kt vt) l es →
    ∃ d r, P.underlying kid = some d ∧ Instr.findNow d (pk kt.agg c) es i = some r ∧
      ((r = none ∧ @mget _ _ kt.decEq l x = none ∧ ∀ z, @mput _ _ kt.decEq l x z = l ++ [(x, z)]) ∨
       (∃ n v y e, r = some (i + n, v) ∧ @mget _ _ kt.decEq l x = some y ∧ (∃ cs, v = pk vt.agg cs ∧ Rd E.w E.imm vt y cs) ∧ es[n]? = some e ∧ (Instr.sameBits 10000 e.key (pk kt.agg c) = true) ∧ ∀ z, @mput _ _ kt.decEq l x z = l.set n (x, z))) := by
  intro l
  obtain ⟨d, hu, _, _, _, _, hsame⟩ := sameNow_ok hT hs he
  induction l with
  | nil =>
    intro es i h
    cases es with
    | nil => exact ⟨d, none, hu, rfl, .inl ⟨rfl, rfl, fun z => rfl⟩⟩
    | cons e es => exact h.elim
  | cons p l ih =>
    intro es i h
    cases es with
    | nil => exact h.elim
    | cons e es =>
      obtain ⟨⟨⟨ck, hk1, hk2⟩, cv, hv1, hv2⟩, h⟩ := h
      have h1 := hsame hx hk2
      have h2 := hsame hk2 hx
      letI := kt.decEq
      by_cases hpx : p.1 = x
      · refine ⟨d, some (i, e.val), hu, ?_, .inr ⟨0, e.val, p.2, e, by simp, ?_, ⟨cv, hv1, hv2⟩, by simp, ?_, fun z => ?_⟩⟩
        · simp only [Instr.findNow, hk1, h1.1]
          simp [hpx]
        · rw [mget_cons, if_pos hpx]
        · rw [hk1]; exact h2.2 hpx
        · simp [mput, hpx]
      · obtain ⟨d', r, hu', hf, hr⟩ := ih es (i + 1) h
        rw [hu] at hu'; cases hu'
        refine ⟨d, r, hu, ?_, ?_⟩
        · simp only [Instr.findNow, hk1, h1.1]
          have : ¬ x = p.1 := fun h => hpx h.symm
          simp [this, hf]
        · rcases hr with ⟨h3, h4, h5⟩ | ⟨n, v, y, e', h3, h4, h5, h6, h7, h8⟩
          · refine .inl ⟨h3, ?_, fun z => ?_⟩
            · rw [mget_cons, if_neg hpx]; exact h4
            · simp [mput, hpx, h5]
          · refine .inr ⟨n + 1, v, y, e', ?_, ?_, h5, by simpa using h6, h7, fun z => ?_⟩
            · rw [h3]; congr 2; omega
            · rw [mget_cons, if_neg hpx]; exact h4
            · simp [mput, hpx, h8]
theorem checkKey_n {kt : Ty} {kid : Nat} (hs : simpleKey kt = true) (he : T.get kid = some (.ty kt)) {E : Env} {x : kt.den} {c : List Value} (hx : Rd E.w E.imm kt x c) (b : Bool) (w : World) (n : Nat) :
    (Instr.checkKey b (n + 1) kid (pk kt.agg c)).run P w = .ok () w := by
  have hd := (hT kid _ he).1
  cases kt <;> simp [simpleKey] at hs
  · obtain ⟨rfl, _⟩ := Rd.int.1 hx
    simp [Instr.checkKey, run_underlying (show P.underlying kid = _ from hd), pk, Ty.agg]
  · have := Rd.bool.1 hx; subst this
    simp [Instr.checkKey, run_underlying (show P.underlying kid = _ from hd), pk, Ty.agg]
  · obtain ⟨rfl, _⟩ := Rd.str.1 hx
    simp [Instr.checkKey, run_underlying (show P.underlying kid = _ from hd), pk, Ty.agg]
theorem checkKey_ok {kt : Ty} {kid : Nat} (hs : simpleKey kt = true) (he : T.get kid = some (.ty kt)) {E : Env} {x : kt.den} {c : List Value} (hx : Rd E.w E.imm kt x c) (b : Bool) (w : World) :
    (Instr.checkKey b 10000 kid (pk kt.agg c)).run P w = .ok () w := checkKey_n hT hs he hx b w 9999
omit hT in
/-- The block of a map. -/
theorem map_block {C : Ctx} {E : Env} {m : Mem} {U : Nat → Prop} (h : MR C E m U) {b : Nat} {k v : Ty} {l : List (k.den × v.den)} (hm : m b = .map k v l) {x : Value} (hx : RV E (.mp b) x) :
    ∃ base es clock, x = .map (some base) ∧ E.ρ b = some (.map base k v) ∧ E.w.heap[base]? = some (.map es clock) ∧ All2 (RE E k v) l es.toList ∧ (∀ e ∈ es, e.born < clock) ∧ (es.toList.map (·.born)).Nodup := by
  have hb := h.blocks b
  rw [hm] at hb
  obtain ⟨base, es, clock, h1, h2, h3, h4, h5⟩ := hb
  obtain ⟨cs, rfl, k', x', y', hb', rfl⟩ := hx
  rw [h1] at hb'; cases hb'
  exact ⟨base, es, clock, rfl, h1, h2, h3, h4, h5⟩
theorem lookupK_ok {R : Type} {C : Ctx} {m : Mem} {U : Nat → Prop} {x k : AV} {ok : Bool} {K : AV → Option R} {y : R} (h : lookupK T tid m x k ok K = some y) :
    ∃ v, K v = some y ∧ ∀ E a j, RV E x a → RV E k j → MR C E m U → ∃ z, (Instr.lookup tid a j ok).run P E.w = .ok z E.w ∧ RV E v z := by
  unfold lookupK at h
  split at h
  · rename_i kt vt b he
    obtain ⟨⟨kid, vid, hu, hk, hv⟩, _⟩ := hT tid _ he
    split at h
    · rename_i kt' vt' l hmb
      split at h
      · rename_i u a hc
        simp only [Bool.and_eq_true] at hc
        have := Ty.eq_of_eqb hc.1.1; subst this
        have := Ty.eq_of_eqb hc.1.2; subst this
        split at h
        · rename_i a' ha'
          obtain ⟨e1, hx⟩ := cast?_some ha'
          subst e1; subst hx
          have key : ∀ E z j, RV E (.mp b) z → RV E (.val u a) j → MR C E m U → ∃ zv, (Instr.lookup tid z j ok).run P E.w = .ok (if ok then .tuple #[zv, .bool (@mget _ _ u.decEq l a).isSome] else zv) E.w ∧
              ∃ cs, zv = pk vt'.agg cs ∧ Rd E.w E.imm vt' ((@mget _ _ u.decEq l a).getD vt'.zero) cs := by
            intro E z j hz hj hm
            obtain ⟨base, es, clock, rfl, hρ, hh, hall, _⟩ := map_block hm hmb hz
            obtain ⟨c, rfl, hr⟩ := hj
            have hr : Rd E.w E.imm u a c := hr
            obtain ⟨d, r, hu', hf, hcase⟩ := findNow_ok hT hc.2 hk hr l es.toList 0 hall
            have hck := checkKey_ok hT hc.2 hk hr es.isEmpty E.w
            have e1 : (AV.val u a).isAgg = u.agg := rfl
            rw [e1]
            have hget : (getObj base).run P E.w = .ok (.map es clock) E.w := by simp [getObj, Sem.run, hh]
            have hzv : (zeroValue vid).run P E.w = .ok (pk vt'.agg (zcells vt')) E.w := run_zeroValue' hT hv E.w
            rcases hcase with ⟨rfl, h1, _⟩ | ⟨n, v, yy, e, rfl, h1, ⟨cs, h2, h3⟩, _⟩
            · refine ⟨pk vt'.agg (zcells vt'), ?_, zcells vt', rfl, by rw [h1]; exact Rd.zero _ _ _⟩
              cases ok <;> simp [Instr.lookup, run_underlying hu, hget, hck, Instr.findKey, run_underlying hu', hf, hzv, h1]
            · refine ⟨v, ?_, cs, h2, by rw [h1]; exact h3⟩
              cases ok <;> simp [Instr.lookup, run_underlying hu, hget, hck, Instr.findKey, run_underlying hu', hf, h1]
          split at h
          · refine ⟨_, h, fun E z j hz hj hm => ?_⟩
            obtain ⟨zv, h1, h2⟩ := key E z j hz hj hm
            exact ⟨zv, h1, h2⟩
          · refine ⟨_, h, fun E z j hz hj hm => ?_⟩
            obtain ⟨zv, h1, cs, h2, h3⟩ := key E z j hz hj hm
            refine ⟨_, h1, [zv, .bool (@mget _ _ u.decEq l a).isSome], rfl, cs, _, ?_, h3, [.bool (@mget _ _ u.decEq l a).isSome], [], rfl, Rd.bool.2 rfl, rfl⟩
            rw [h2]; rfl
        · cases h
      · cases h
    · cases h
  · cases h
theorem mapUpdateK_ok {R : Type} {C : Ctx} {m : Mem} {x k v : AV} {K : Mem → Option R} {y : R} (h : mapUpdateK T tid m x k v K = some y) :
    ∃ m', K m' = some y ∧ ∀ E a j z U, RV E x a → RV E k j → RV E v z → MR C E m U → ∃ w', (Instr.mapUpdate tid a j z).run P E.w = .ok () w' ∧ MR C { E with w := w' } m' U ∧ Ext E { E with w := w' } ∧
      (∀ j, ¬ owns E m j → w'.heap[j]? = E.w.heap[j]?) ∧ w'.heap.size = E.w.heap.size ∧ ∀ j, owns { E with w := w' } m' j → owns E m j := by
  unfold mapUpdateK at h
  split at h
  · rename_i kt vt b he
    obtain ⟨⟨kid, vid, hu, hk, hv⟩, _⟩ := hT tid _ he
    split at h
    · rename_i kt' vt' l hmb
      split at h
      · rename_i u a w c hc
        simp only [Bool.and_eq_true] at hc
        have := Ty.eq_of_eqb hc.1.1.1; subst this
        have := Ty.eq_of_eqb hc.1.1.2; subst this
        split at h
        · rename_i a' c' ha' hc'
          obtain ⟨e1, hx⟩ := cast?_some ha'
          subst e1; subst hx
          obtain ⟨e1, hx⟩ := cast?_some hc'
          subst e1; subst hx
          refine ⟨_, h, fun E z j q U hz hj hq hm => ?_⟩
          obtain ⟨base, es, clock, rfl, hρ, hh, hall, hborn, hnd⟩ := map_block hm hmb hz
          obtain ⟨ck, rfl, hr⟩ := hj
          have hr : Rd E.w E.imm u a ck := hr
          obtain ⟨cv, rfl, hrv⟩ := hq
          have hrv : Rd E.w E.imm w c cv := hrv
          obtain ⟨d, r, hu', hf, hcase⟩ := findNow_ok hT hc.1.2 hk hr l es.toList 0 hall
          have hck := checkKey_ok hT hc.1.2 hk hr false E.w
          have e1 : (AV.val u a).isAgg = u.agg := rfl
          have e2 : (AV.val w c).isAgg = w.agg := rfl
          rw [e1, e2]
          have hget : (getObj base).run P E.w = .ok (.map es clock) E.w := by simp [getObj, Sem.run, hh]
          have hbase : base < E.w.heap.size := (Array.getElem?_eq_some_iff.1 hh).1
          have hset : ∀ o, (setObj base o).run P E.w = .ok () { E.w with heap := E.w.heap.setIfInBounds base o } := by intro o; simp [setObj, Sem.run, hh]
          have hlive : live (m b) := by rw [hmb]; trivial
          have hother : ∀ o j, j ≠ base → ({ E.w with heap := E.w.heap.setIfInBounds base o } : World).heap[j]? = E.w.heap[j]? := by
            intro o j hj
            show (E.w.heap.setIfInBounds base o)[j]? = _
            rw [Array.getElem?_setIfInBounds_ne (fun e => hj e.symm)]
          have hsame : ∀ o, ({ E.w with heap := E.w.heap.setIfInBounds base o } : World).heap[base]? = some o := by
            intro o
            show (E.w.heap.setIfInBounds base o)[base]? = _
            rw [Array.getElem?_setIfInBounds_self_of_lt hbase]
          have hownb : owns E m base := ⟨b, _, hlive, hρ, rfl⟩
          have fin : ∀ es' clock', (∀ E' : Env, E'.w = { E.w with heap := E.w.heap.setIfInBounds base (.map es' clock') } → Ext E E' → All2 (RE E' u w) (@mput _ _ u.decEq l a c) es'.toList) → (∀ e ∈ es', e.born < clock') → (es'.toList.map (·.born)).Nodup →
              MR C { E with w := { E.w with heap := E.w.heap.setIfInBounds base (.map es' clock') } } (m.put b (.map u w (@mput _ _ u.decEq l a c))) U ∧ Ext E { E with w := { E.w with heap := E.w.heap.setIfInBounds base (.map es' clock') } } ∧
              (∀ j, ¬ owns E m j → ({ E.w with heap := E.w.heap.setIfInBounds base (.map es' clock') } : World).heap[j]? = E.w.heap[j]?) ∧ ({ E.w with heap := E.w.heap.setIfInBounds base (.map es' clock') } : World).heap.size = E.w.heap.size ∧
              ∀ j, owns { E with w := { E.w with heap := E.w.heap.setIfInBounds base (.map es' clock') } } (m.put b (.map u w (@mput _ _ u.decEq l a c))) j → owns E m j := by
            intro es' clock' h1 h2 h3
            obtain ⟨hm', hx⟩ := MR.write hm hlive hρ rfl (w' := { E.w with heap := E.w.heap.setIfInBounds base (.map es' clock') }) rfl rfl rfl (by simp) (hother _)
              (.map u w (@mput _ _ u.decEq l a c)) (fun hx => ⟨base, es', clock', hρ, hsame _, h1 _ rfl hx, h2, h3⟩)
            refine ⟨hm', hx, fun j hj => hother _ j (fun e => hj (e ▸ hownb)), by simp, ?_⟩
            rintro j ⟨i, bt, hli, hb, hj⟩
            by_cases hib : i = b
            · subst hib; exact ⟨i, bt, hlive, hb, hj⟩
            · rw [Mem.put_ne _ _ hib] at hli; exact ⟨i, bt, hli, hb, hj⟩
          rcases hcase with ⟨rfl, _, h1⟩ | ⟨n, vv, yy, e, rfl, _, _, he', hsb, h1⟩
          · refine ⟨_, by simp [Instr.mapUpdate, run_underlying hu, hget, hck, Instr.findKey, run_underlying hu', hf, hset]; rfl, ?_⟩
            refine fin (es.push { key := pk u.agg ck, val := pk w.agg cv, born := clock }) (clock + 1) (fun E' he hx => ?_) ?_ ?_
            · rw [h1]
              simp only [Array.toList_push]
              exact (hall.mono fun _ _ hr => hr.ext hx).append ⟨⟨⟨ck, rfl, hr.ext hx⟩, cv, rfl, hrv.ext hx⟩, trivial⟩
            · intro e he
              rcases Array.mem_push.1 he with he | rfl
              · have := hborn e he; omega
              · simp
            · simp only [Array.toList_push, List.map_append, List.map_cons, List.map_nil]
              rw [List.nodup_append]
              refine ⟨hnd, by simp, fun a ha b hb => ?_⟩
              simp at hb; subst hb
              obtain ⟨e, he, rfl⟩ := List.mem_map.1 ha
              have := hborn e (Array.mem_toList_iff.1 he); omega
          · have hes : es[n]? = some e := by simpa using he'
            obtain ⟨hn, hen⟩ := Array.getElem?_eq_some_iff.1 hes
            have hkey : (Instr.keyThatStays e.key (pk u.agg ck)).run P E.w = .ok (pk u.agg ck) E.w := by simp [Instr.keyThatStays, hsb]
            refine ⟨_, by simp [Instr.mapUpdate, run_underlying hu, hget, hck, Instr.findKey, run_underlying hu', hf, hset, hes, hkey]; rfl, ?_⟩
            have hmod : (es.modify n fun e => { e with key := pk u.agg ck, val := pk w.agg cv }).toList = es.toList.set n { e with key := pk u.agg ck, val := pk w.agg cv } := by
              apply List.ext_getElem?
              intro i
              rw [Array.toList_modify, List.getElem?_modify, List.getElem?_set]
              by_cases hi : n = i
              · subst hi; simp [hn, hen]
              · simp [hi]
            refine fin (es.modify n fun e => { e with key := pk u.agg ck, val := pk w.agg cv }) clock (fun E' he hx => ?_) ?_ ?_
            · rw [h1, hmod]
              exact All2.set ⟨⟨ck, rfl, hr.ext hx⟩, cv, rfl, hrv.ext hx⟩ n (hall.mono fun _ _ hr => hr.ext hx)
            · intro e2 he2
              have : e2 ∈ (es.modify n fun e => { e with key := pk u.agg ck, val := pk w.agg cv }).toList := Array.mem_toList_iff.2 he2
              rw [hmod] at this
              rcases List.mem_or_eq_of_mem_set this with h | rfl
              · exact hborn e2 (Array.mem_toList_iff.1 h)
              · exact hborn e (Array.mem_of_getElem? hes)
            · rw [hmod]
              have : (es.toList.set n { e with key := pk u.agg ck, val := pk w.agg cv }).map (·.born) = es.toList.map (·.born) := by
                apply List.ext_getElem?
                intro i
                rw [List.getElem?_map, List.getElem?_map, List.getElem?_set]
                by_cases hi : n = i
                · subst hi; simp [hn, hen]
                · simp [hi]
              rw [this]; exact hnd
        · cases h
      · cases h
    · cases h
  · cases h

/-! ### Lengths -/
theorem lenK_ok {R : Type} {C : Ctx} {m : Mem} {U : Nat → Prop} {ty : TypeId} {x : AV} {K : AV → Option R} {y : R} (h : lenK T tid m x K = some y) :
    ∃ v, K v = some y ∧ ∀ E a, RV E x a → MR C E m U → ∃ z, (Builtin.len_ #[tid] ty #[a]).run P E.w = .ok z E.w ∧ RV E v z := by
  have hkind : ∀ n : Nat, n ≤ 9223372036854775807 → inKind .i64 (n : Int) = true := fun n h => Nat.ble_eq_true_of_le h
  unfold lenK at h
  split at h
  · rename_i s he
    have hu : P.underlying tid = some .string := (hT tid _ he).1
    refine ⟨_, h, fun E a ha _ => ?_⟩
    obtain ⟨rfl, hs⟩ := ha.str
    exact ⟨.int .i64 s.size, by simp [Builtin.len_, run_underlying hu, goInt], RV.mkInt (hkind _ (by unfold top at hs; omega))⟩
  · rename_i e t xs he
    obtain ⟨eid, hu, heid⟩ := (hT tid _ he).1
    refine ⟨_, h, fun E a ha _ => ?_⟩
    obtain ⟨cs, rfl, hr⟩ := ha
    have hr : Rd E.w E.imm (.list t) xs cs := hr
    obtain ⟨_, hr⟩ := Rd.list.1 hr
    have e0 : (AV.val (.list t) xs).isAgg = false := rfl
    rw [e0]
    rcases hr with ⟨rfl, hnil⟩ | ⟨ad, cap, css, rfl, _, hlc, hcap, _⟩
    · rw [hnil]
      exact ⟨.int .i64 0, by simp [pk, Builtin.len_, run_underlying hu, goInt], RV.mkInt (hkind 0 (by omega))⟩
    · exact ⟨.int .i64 (List.length xs), by simp [pk, Builtin.len_, run_underlying hu, goInt], RV.mkInt (hkind _ (by unfold maxLen at hcap; omega))⟩
  · rename_i e he
    obtain ⟨eid, hu, heid⟩ := (hT tid _ he).1
    refine ⟨_, h, fun E a ha _ => ?_⟩
    obtain ⟨cs, rfl, hr⟩ := ha
    have hr : cs = [.slice none 0 0] := hr
    subst hr
    exact ⟨.int .i64 0, by simp [pk, AV.isAgg, Builtin.len_, run_underlying hu, goInt], RV.mkInt (hkind 0 (by omega))⟩
  · rename_i e b he
    obtain ⟨eid, hu, heid⟩ := (hT tid _ he).1
    split at h
    · rename_i t xs hmb
      refine ⟨_, h, fun E a ha hm => ?_⟩
      have hb := hm.blocks b
      rw [hmb] at hb
      obtain ⟨_, hb⟩ := hb
      obtain ⟨cs, rfl, hr⟩ := ha
      rcases hb with ⟨hb, hnil⟩ | ⟨k', cap, cells, el, css, rest, hb, _, _, hlc, hcap, _⟩
      · rcases hr with ⟨t', hb', rfl⟩ | ⟨k2, t', cap', len, hb', rfl⟩
        · have hnil : xs = [] := hnil
          rw [hnil]
          exact ⟨.int .i64 0, by simp [pk, AV.isAgg, Builtin.len_, run_underlying hu, goInt], RV.mkInt (hkind 0 (by omega))⟩
        · rw [hb] at hb'; cases hb'
      · rcases hr with ⟨t', hb', rfl⟩ | ⟨k2, t', cap', len, hb', rfl⟩
        · rw [hb] at hb'; cases hb'
        · rw [hb] at hb'; cases hb'
          exact ⟨.int .i64 (List.length xs), by simp [pk, AV.isAgg, Builtin.len_, run_underlying hu, goInt], RV.mkInt (hkind _ (by unfold maxLen at hcap; omega))⟩
    · cases h
  · rename_i e b lo hi he
    obtain ⟨eid, hu, heid⟩ := (hT tid _ he).1
    refine ⟨_, h, fun E a ha hm => ?_⟩
    rw [lenC_eq]
    obtain ⟨cs, rfl, h1, h2, hr⟩ := ha
    rcases hr with ⟨t', hb', rfl, rfl⟩ | ⟨k2, t', cap', len, ad, c, hb', hl, hc1, hc2, rfl, _⟩
    · have : lo = 0 := by omega
      subst this
      exact ⟨.int .i64 0, by simp [pk, AV.isAgg, Builtin.len_, run_underlying hu, goInt], RV.mkInt (hkind 0 (by omega))⟩
    · refine ⟨.int .i64 (hi - lo), ?_, RV.mkInt ?_⟩
      · have : ((hi - lo).toNat : Int) = hi - lo := by omega
        simp [pk, AV.isAgg, Builtin.len_, run_underlying hu, goInt, this]
      · have : hi - lo = ((hi - lo).toNat : Int) := by omega
        rw [this]
        exact hkind _ (by unfold maxLen at hc2; omega)
  · rename_i e b p he
    obtain ⟨eid, hu, heid⟩ := (hT tid _ he).1
    split at h
    · rename_i n u hty
      refine ⟨_, h, fun E a ha hm => ?_⟩
      obtain ⟨cs, rfl, k', t', n', u', o, hb, hp1, hp2, _, hcap, rfl⟩ := ha
      have := ptr_ty hm (bt := .var k' t') hb ⟨hp1, hp2⟩ hty
      cases this
      exact ⟨.int .i64 n, by simp [pk, AV.isAgg, Builtin.len_, run_underlying hu, goInt], RV.mkInt (hkind _ (by unfold maxLen at hcap; omega))⟩
    · cases h
  · rename_i n e he
    obtain ⟨eid, hu, heid⟩ := (hT tid _ he).1
    split at h
    · rename_i hn
      refine ⟨_, h, fun E a ha _ => ⟨.int .i64 n, ?_, RV.mkInt (hkind n (Nat.le_of_ble_eq_true hn))⟩⟩
      cases a <;> simp [Builtin.len_, run_underlying hu, goInt]
    · cases h
  · rename_i kt vt b he
    obtain ⟨⟨kid, vid, hu, hk, hv⟩, _⟩ := hT tid _ he
    split at h
    · rename_i k v l hmb
      obtain ⟨hc, h⟩ := guardK_some h
      have hc : List.length l ≤ top := by simpa using hc
      refine ⟨_, h, fun E a ha hm => ?_⟩
      obtain ⟨base, es, clock, rfl, hρ, hh, hall, _⟩ := map_block hm hmb ha
      have hlen : es.size = List.length l := by have := hall.length; simpa using this.symm
      have hget : (getObj base).run P E.w = .ok (.map es clock) E.w := by simp [getObj, Sem.run, hh]
      exact ⟨.int .i64 (List.length l), by simp [Builtin.len_, run_underlying hu, hget, goInt, hlen], RV.mkInt (hkind _ (by unfold top at hc; omega))⟩
    · cases h
  · cases h
omit hT in
theorem minmaxK_ok {R : Type} {mx : Bool} {tys : Array TypeId} {ty : TypeId} {vs : List AV} {K : AV → Option R} {y : R} (h : minmaxK mx vs K = some y) :
    ∃ v, K v = some y ∧ ∀ (E : Env) (as : List Value), as.length = vs.length → (∀ (i : Nat) v a, vs[i]? = some v → as[i]? = some a → RV E v a) →
      ∃ z, (match mx with | true => Builtin.max_ tys ty as.toArray | false => Builtin.min_ tys ty as.toArray).run P E.w = .ok z E.w ∧ RV E v z := by
  unfold minmaxK at h
  split at h
  · rename_i k a l b
    split at h
    · rename_i hk
      have := IntKind.eq_of_eqb hk; subst this
      refine ⟨_, h, fun E as hl hr => ?_⟩
      match as, hl with
      | [p, q], _ =>
        obtain ⟨rfl, ha⟩ := RV.int (hr 0 _ p rfl rfl)
        obtain ⟨rfl, hb⟩ := RV.int (hr 1 _ q rfl rfl)
        cases mx with
        | true =>
          refine ⟨.int k (max a b), ?_, RV.mkInt ?_⟩
          · show (Builtin.max_ tys ty #[.int k a, .int k b]).run P E.w = _
            rw [run_max_int2]
            congr 2
            rcases Int.le_total a b with h | h
            · rw [Int.max_eq_right h]; split <;> omega
            · rw [Int.max_eq_left h]; split <;> omega
          · rcases Int.le_total a b with h | h
            · rw [Int.max_eq_right h]; exact hb
            · rw [Int.max_eq_left h]; exact ha
        | false =>
          refine ⟨.int k (min a b), ?_, RV.mkInt ?_⟩
          · show (Builtin.min_ tys ty #[.int k a, .int k b]).run P E.w = _
            rw [run_min_int2]
            congr 2
            rcases Int.le_total a b with h | h
            · rw [Int.min_eq_left h]; split <;> omega
            · rw [Int.min_eq_right h]; split <;> omega
          · rcases Int.le_total a b with h | h
            · rw [Int.min_eq_left h]; exact ha
            · rw [Int.min_eq_right h]; exact hb
    · cases h
  · cases h
end
end Go.Co
end

section
namespace Go.Co
open Go.RowKit

/-- Nothing but the variables' own blocks has turned. -/
structure Frm (E : Env) (m : Mem) (E' : Env) (m' : Mem) : Prop where
  heap : ∀ j, j < E.w.heap.size → ¬ owns E m j → E'.w.heap[j]? = E.w.heap[j]?
  size : E.w.heap.size ≤ E'.w.heap.size
  own : ∀ j, owns E' m' j → owns E m j ∨ E.w.heap.size ≤ j
  imm : ∀ j, E'.imm j → E.imm j ∨ owns E m j ∨ E.w.heap.size ≤ j
theorem Frm.refl (E : Env) (m : Mem) : Frm E m E m := ⟨fun _ _ _ => rfl, Nat.le_refl _, fun _ h => .inl h, fun _ h => .inl h⟩
theorem Frm.trans {E F G : Env} {m n o : Mem} (h : Frm E m F n) (h' : Frm F n G o) : Frm E m G o := by
  refine ⟨fun j hj hn => ?_, Nat.le_trans h.size h'.size, fun j hj => ?_, fun j hj => ?_⟩
  · rw [h'.heap j (Nat.lt_of_lt_of_le hj h.size) (fun ho => (h.own j ho).elim hn (fun hle => absurd hj (by omega)))]
    exact h.heap j hj hn
  · rcases h'.own j hj with h1 | h1
    · exact h.own j h1
    · exact .inr (Nat.le_trans h.size h1)
  · rcases h'.imm j hj with h1 | h1 | h1
    · exact h.imm j h1
    · rcases h.own j h1 with h2 | h2
      · exact .inr (.inl h2)
      · exact .inr (.inr h2)
    · exact .inr (.inr (Nat.le_trans h.size h1))
/-- What is let go. -/
theorem Frm.kill {E : Env} {m m' : Mem} {im : Nat → Prop} (h1 : ∀ j, owns E m' j → owns E m j) (h2 : ∀ k, im k → E.imm k ∨ owns E m k) : Frm E m { E with imm := im } m' :=
  ⟨fun _ _ _ => rfl, Nat.le_refl _, fun j hj => .inl (h1 j hj), fun j hj => (h2 j hj).elim .inl (fun h => .inr (.inl h))⟩
theorem owns_put {E : Env} {m : Mem} {b : Nat} {y : AB} {j : Nat} (hl : live (m b)) (h : owns E (m.put b y) j) : owns E m j := by
  obtain ⟨i, bt, hli, hb, hj⟩ := h
  by_cases hib : i = b
  · subst hib; exact ⟨i, bt, hl, hb, hj⟩
  · rw [Mem.put_ne _ _ hib] at hli; exact ⟨i, bt, hli, hb, hj⟩
section
variable {C : Ctx} {E : Env} {m : Mem} {U : Nat → Prop}
/-- A new block. -/
theorem alloc_ok (h : MR C E m U) {nx : Nat} (hN : ¬ U nx) (o : Obj) (bt : BT) (hbt : bt.base = some E.w.heap.size) (y : AB) (hy : Ext E { (E.name nx bt) with w := E.w.alloc o } → RM { (E.name nx bt) with w := E.w.alloc o } nx y) (hly : live y := by trivial) :
    ∃ E', E'.w = E.w.alloc o ∧ E'.ρ nx = some bt ∧ Ext E E' ∧ MR C E' (m.put nx y) (fun b => U b ∨ b = nx) ∧ Frm E m E' (m.put nx y) := by
  have hx : Ext E { (E.name nx bt) with w := E.w.alloc o } :=
    ⟨(Ext.name h hN bt).ρ, fun k hk => ⟨hk, Below.heap_alloc _ _ _ (h.immLt k hk)⟩⟩
  obtain ⟨h1, h2⟩ := h.alloc hN o bt hbt y (hy hx) hly
  refine ⟨_, rfl, by simp [Env.name], h2, h1, fun j hj _ => Below.heap_alloc _ _ _ hj, by simp, ?_, fun j hj => .inl hj⟩
  rintro j ⟨i, bt', hli, hb, hj⟩
  by_cases hib : i = nx
  · subst hib
    simp [Env.name] at hb
    subst hb
    rw [hbt] at hj; cases hj
    exact .inr (Nat.le_refl _)
  · rw [Mem.put_ne _ _ hib] at hli
    simp [Env.name, hib] at hb
    exact .inl ⟨i, bt', hli, hb, hj⟩
/-- A name for the nil row. -/
theorem nilrow_ok (h : MR C E m U) {nx : Nat} (hN : ¬ U nx) (t : Ty) : ∃ E', E'.w = E.w ∧ E'.ρ nx = some (.nilslab t) ∧ Ext E E' ∧ MR C E' (m.put nx (.slab t [])) (fun b => U b ∨ b = nx) ∧ Frm E m E' (m.put nx (.slab t [])) := by
  have hx := Ext.name h hN (.nilslab t)
  have hname : ∀ b, b ≠ nx → (E.name nx (.nilslab t)).ρ b = E.ρ b := fun b hb => by simp [Env.name, hb]
  have hnew : (E.name nx (.nilslab t)).ρ nx = some (.nilslab t) := by simp [Env.name]
  have hown : ∀ j, owns (E.name nx (.nilslab t)) (m.put nx (.slab t [])) j → owns E m j := by
    rintro j ⟨i, bt, hli, hb, hj⟩
    by_cases hib : i = nx
    · subst hib; rw [hnew] at hb; cases hb; simp [BT.base] at hj
    · rw [Mem.put_ne _ _ hib] at hli; rw [hname i hib] at hb; exact ⟨i, bt, hli, hb, hj⟩
  refine ⟨E.name nx (.nilslab t), rfl, hnew, hx, ⟨h.below, ?_, fun k hk => h.own k (hown k hk), ?_, h.immLt, h.immI, ?_⟩, fun _ _ _ => rfl, Nat.le_refl _, fun j hj => .inl (hown j hj), fun j hj => .inl hj⟩
  · intro b
    by_cases hb : b = nx
    · subst hb; rw [Mem.put_same]; exact ⟨by simp, .inl ⟨hnew, rfl⟩⟩
    · rw [Mem.put_ne _ _ hb]; exact (h.blocks b).frame hx fun _ _ _ _ _ => rfl
  · intro b b' b1 b2 k h1 h2 h3 h4 h5 h6
    by_cases hb : b = nx
    · subst hb; rw [hnew] at h3; cases h3; simp [BT.base] at h5
    · by_cases hb2 : b' = nx
      · subst hb2; rw [hnew] at h4; cases h4; simp [BT.base] at h6
      · rw [Mem.put_ne _ _ hb] at h1
        rw [Mem.put_ne _ _ hb2] at h2
        rw [hname b hb] at h3
        rw [hname b' hb2] at h4
        exact h.inj b b' b1 b2 k h1 h2 h3 h4 h5 h6
  · intro b bt hb
    by_cases hbn : b = nx
    · exact .inr hbn
    · rw [hname b hbn] at hb; exact .inl (h.nx b bt hb)
/-- A row, longer, in its old block, under a new name. -/
theorem reslab_ok (h : MR C E m U) {nx b k : Nat} {t : Ty} {cap len len' : Nat} (hN : ¬ U nx) (hl : live (m b)) (hb : E.ρ b = some (.slab k t cap len)) {w' : World}
    (hos : w'.os = E.w.os) (htape : w'.tape = E.w.tape) (hout : w'.output = E.w.output) (hsz : w'.heap.size = E.w.heap.size) (hoth : ∀ j, j ≠ k → w'.heap[j]? = E.w.heap[j]?)
    (y : AB) (hy : Ext E { (E.name nx (.slab k t cap len')) with w := w' } → RM { (E.name nx (.slab k t cap len')) with w := w' } nx y) (_hly : live y := by trivial) :
    ∃ E', E'.w = w' ∧ E'.ρ nx = some (.slab k t cap len') ∧ Ext E E' ∧ MR C E' ((m.put b .dead).put nx y) (fun b => U b ∨ b = nx) ∧ Frm E m E' ((m.put b .dead).put nx y) := by
  obtain ⟨ho1, ho2, ho3⟩ := h.own k ⟨b, _, hl, hb, rfl⟩
  have hx : Ext E { (E.name nx (.slab k t cap len')) with w := w' } := ⟨(Ext.name h hN _).ρ, fun j hj => ⟨hj, hoth j (fun e => ho3 (e ▸ hj))⟩⟩
  have hname : ∀ i, i ≠ nx → (E.name nx (.slab k t cap len')).ρ i = E.ρ i := fun i hi => by simp [Env.name, hi]
  have hnew : (E.name nx (.slab k t cap len')).ρ nx = some (.slab k t cap len') := by simp [Env.name]
  have hbn : b ≠ nx := by rintro rfl; exact hN (h.nx _ _ hb)
  have hold : ∀ i, i ≠ nx → live (((m.put b .dead).put nx y) i) → i ≠ b ∧ live (m i) := fun i hi hli => by
    rw [Mem.put_ne _ _ hi] at hli
    by_cases hib : i = b
    · subst hib; rw [Mem.put_same] at hli; exact hli.elim
    · rw [Mem.put_ne _ _ hib] at hli; exact ⟨hib, hli⟩
  have hown : ∀ j, owns { (E.name nx (.slab k t cap len')) with w := w' } ((m.put b .dead).put nx y) j → owns E m j := by
    rintro j ⟨i, bt, hli, hbi, hj⟩
    by_cases hi : i = nx
    · subst hi
      rw [show ({ (E.name i (.slab k t cap len')) with w := w' } : Env).ρ i = some (.slab k t cap len') from hnew] at hbi
      cases hbi; cases hj; exact ⟨b, _, hl, hb, rfl⟩
    · rw [show ({ (E.name nx (.slab k t cap len')) with w := w' } : Env).ρ i = E.ρ i from hname i hi] at hbi
      exact ⟨i, bt, (hold i hi hli).2, hbi, hj⟩
  refine ⟨{ (E.name nx (.slab k t cap len')) with w := w' }, rfl, hnew, hx, ⟨?_, ?_, ?_, ?_, ?_, h.immI, ?_⟩, fun j hj hn => hoth j (fun e => hn (e ▸ ⟨b, _, hl, hb, rfl⟩)), by simp [hsz], fun j hj => .inl (hown j hj), fun j hj => .inl hj⟩
  · exact h.below.trans (.of ⟨hos, htape, hout, by rw [hsz]; exact Nat.le_refl _, fun j hj => hoth j (by omega)⟩)
  · intro i
    by_cases hi : i = nx
    · subst hi; rw [Mem.put_same]; exact hy hx
    · rw [Mem.put_ne _ _ hi]
      by_cases hib : i = b
      · subst hib; rw [Mem.put_same]; trivial
      · rw [Mem.put_ne _ _ hib]
        refine (h.blocks i).frame hx fun bt' j hb' hj hli => hoth j fun e => hib ?_
        subst e
        exact h.inj i b bt' _ j hli hl hb' hb hj rfl
  · intro j hj
    have := h.own j (hown j hj)
    exact ⟨by simpa [hsz] using this.1, this.2⟩
  · intro i i' b1 b2 j h1 h2 h3 h4 h5 h6
    by_cases hi : i = nx
    · by_cases hi2 : i' = nx
      · rw [hi, hi2]
      · exfalso
        subst hi
        rw [show ({ (E.name i (.slab k t cap len')) with w := w' } : Env).ρ i = some (.slab k t cap len') from hnew] at h3
        cases h3; cases h5
        rw [show ({ (E.name i (.slab k t cap len')) with w := w' } : Env).ρ i' = E.ρ i' from hname i' hi2] at h4
        obtain ⟨hne, hli⟩ := hold i' hi2 h2
        exact hne (h.inj i' b b2 _ k hli hl h4 hb h6 rfl)
    · by_cases hi2 : i' = nx
      · exfalso
        subst hi2
        rw [show ({ (E.name i' (.slab k t cap len')) with w := w' } : Env).ρ i' = some (.slab k t cap len') from hnew] at h4
        cases h4; cases h6
        rw [show ({ (E.name i' (.slab k t cap len')) with w := w' } : Env).ρ i = E.ρ i from hname i hi] at h3
        obtain ⟨hne, hli⟩ := hold i hi h1
        exact hne (h.inj i b b1 _ k hli hl h3 hb h5 rfl)
      · rw [show ({ (E.name nx (.slab k t cap len')) with w := w' } : Env).ρ i = E.ρ i from hname i hi] at h3
        rw [show ({ (E.name nx (.slab k t cap len')) with w := w' } : Env).ρ i' = E.ρ i' from hname i' hi2] at h4
        exact h.inj i i' b1 b2 j (hold i hi h1).2 (hold i' hi2 h2).2 h3 h4 h5 h6
  · intro j hj
    have := h.immLt j hj
    simpa [hsz] using this
  · intro i bt hbi
    by_cases hi : i = nx
    · exact .inr hi
    · rw [show ({ (E.name nx (.slab k t cap len')) with w := w' } : Env).ρ i = E.ρ i from hname i hi] at hbi
      exact .inl (h.nx i bt hbi)
end

section
variable {P : Program} {T : Tab} (hT : TabOK P T) {tid : Nat}
include hT

/-! ### Zero values -/
omit hT in
theorem exZero_ok {E : Env} : ∀ b : Ty, isBody b = true → (zeroV.exZero b).has b = true ∧ RC E (zeroV.exZero b) (zcells b) := by
  intro b
  induction b with
  | unit => intro _; exact ⟨rfl, rfl⟩
  | prod a b _ ihb =>
    intro h
    have hb : isBody b = true := h
    obtain ⟨h1, h2⟩ := ihb hb
    cases a with
    | list t => exact ⟨by simp [zeroV.exZero, AV.has, isList, h1], [.slice none 0 0], zcells b, rfl, rfl, h2⟩
    | _ => exact ⟨by simp [zeroV.exZero, AV.has, Ty.eqb_self, h1], _, zcells b, rfl, Rd.zero _ _ _, h2⟩
  | _ => intro h; simp [isBody] at h
omit hT in
theorem zeroV_ok {E : Env} (t : Ty) : (zeroV t).has t = true ∧ RC E (zeroV t) (zcells t) := by
  cases t with
  | list t => exact ⟨rfl, rfl⟩
  | st s =>
    simp only [zeroV]
    split
    · obtain ⟨h1, h2⟩ := exZero_ok (E := E) s.body (isBody_body s)
      refine ⟨by simp [AV.has, h1], ?_⟩
      have : zcells (.st s) = zcells s.body := zcN_body s
      rw [this]; exact h2
    · exact ⟨Ty.eqb_self _, Rd.zero _ _ (.st s)⟩
  | int k => exact ⟨Ty.eqb_self _, Rd.zero _ _ (.int k)⟩
  | bool => exact ⟨Ty.eqb_self _, Rd.zero _ _ .bool⟩
  | str => exact ⟨Ty.eqb_self _, Rd.zero _ _ .str⟩
  | unit => exact ⟨Ty.eqb_self _, Rd.zero _ _ .unit⟩
  | prod a b => exact ⟨Ty.eqb_self _, Rd.zero _ _ (.prod a b)⟩
  | arr n t => exact ⟨Ty.eqb_self _, Rd.zero _ _ (.arr n t)⟩

omit hT in
theorem zcells_len (t : Ty) : (zcells t).length = t.size := Rd.len (w := default) (im := fun _ => False) _ _ _ (Rd.zero _ _ t)
theorem alloc_run {t : Ty} (he : T.get tid = some (.ty t)) (w : World) : (Instr.alloc tid true (.tuple #[])).run P w = .ok (.pointer (some ⟨w.heap.size, 0, none⟩)) (w.alloc (.cells (zcells t).toArray tid)) := by
  have hz := run_zeroValue' hT he w
  have hc : (pk t.agg (zcells t)).cells = (zcells t).toArray := by
    have := (Rd.zero w (fun _ => False) t).cells
    apply Array.ext'
    simpa using this
  simp [Instr.alloc, hz, newVar, newRow, hc]
theorem allocm_run {k v : Ty} (he : T.get tid = some (.mp k v)) (w : World) : (Instr.alloc tid true (.tuple #[])).run P w = .ok (.pointer (some ⟨w.heap.size, 0, none⟩)) (w.alloc (.cells #[.map none] tid)) := by
  obtain ⟨_, i, hi, _, hz⟩ := hT _ _ he
  have hz : (zeroValue tid).run P w = .ok (.map none) w := by simp [zeroValue, typeInfo, hi, hz]
  simp [Instr.alloc, hz, newVar, newRow, Value.cells]
theorem allocp_run (he : T.get tid = some .pt) (w : World) : (Instr.alloc tid true (.tuple #[])).run P w = .ok (.pointer (some ⟨w.heap.size, 0, none⟩)) (w.alloc (.cells #[.pointer none] tid)) := by
  obtain ⟨_, i, hi, _, hz⟩ := hT _ _ he
  have hz : (zeroValue tid).run P w = .ok (.pointer none) w := by simp [zeroValue, typeInfo, hi, hz]
  simp [Instr.alloc, hz, newVar, newRow, Value.cells]
omit hT in
theorem box_run {v : Value} (w : World) : (Instr.box tid v).run P w = .ok (.pointer (some ⟨w.heap.size, 0, none⟩)) (w.alloc (.cells v.cells tid)) := by
  simp [Instr.box, newVar, newRow]

omit hT in
theorem storeP_ok {C : Ctx} {m : Mem} {v : AV} {t u : Ty} {b : Nat} {p : List PS} {ab : AB} (hnp : (∀ a b, t ≠ .prod a b) ∧ t ≠ .unit) (hsz0 : ∀ w, (sizeOf tid).run P w = .ok t.size w) (hty : (m b).tyAt p = some u) (hv : v.has t = true) (heq : Ty.eqb u t = true) (hst : (m b).store p v = some ab) {E : Env} {a z : Value} {U : Nat → Prop} (ha : RV E (.ptr b p) a) (hz : RV E v z) (hm : MR C E m U) :
    ∃ E', (Instr.storeAt tid a z).run P E.w = .ok () E'.w ∧ Ext E E' ∧ MR C E' (m.put b ab) U ∧ Frm E m E' (m.put b ab) := by
  have := Ty.eq_of_eqb heq; subst this
  obtain ⟨bt, k, u', o, h1, h2, h3, rfl⟩ := ha.ptr
  have := ptr_ty hm h1 h3 hty; subst this
  obtain ⟨d, rfl, hd⟩ := hz.cells (by rintro rfl; simp [AV.has] at hv) (by rintro l rfl; simp [AV.has] at hv)
  have hdc : (pk v.isAgg d).cells.toList = d := hd.cells (by rintro rfl; cases u' <;> simp [AV.has] at hv; exact hnp.2 rfl) (by rintro a l rfl; cases u' <;> simp [AV.has] at hv; exact hnp.1 _ _ rfl)
  have hdl := has_cells hv hd
  have hsz : (sizeOf tid).run P E.w = .ok u'.size E.w := hsz0 E.w
  have hbl := hm.blocks b
  have runit : ∀ (cs : Array Value) (el : TypeId), E.w.heap[k]? = some (.cells cs el (0, 0)) → o + u'.size ≤ cs.size →
      (Instr.storeAt tid (.pointer (some ⟨k, o, none⟩)) (pk v.isAgg d)).run P E.w = .ok () (E.w.setRow k (cs.toList.take o ++ d ++ cs.toList.drop (o + u'.size)).toArray) := by
    intro cs el hc hle
    have hst := run_storeCells_at P k o el d 0 cs E.w hc (by omega) hd.one
    simp only [Nat.add_zero, hdl] at hst
    have hsize : (pk v.isAgg d).cells.size = u'.size := by
      rw [← Array.length_toList, hdc, hdl]
    simp [Instr.storeAt, Instr.sureAddr, storeVar, hsz, hsize, hdc, hst]
  have hmem : ∀ (cs : Array Value) (el : TypeId) (cs' : Array Value), E.w.heap[k]? = some (.cells cs el (0, 0)) → live (m b) → live ab →
      (Ext E { E with w := E.w.setRow k cs' } → RM { E with w := E.w.setRow k cs' } b ab) →
      Ext E { E with w := E.w.setRow k cs' } ∧ MR C { E with w := E.w.setRow k cs' } (m.put b ab) U ∧ Frm E m { E with w := E.w.setRow k cs' } (m.put b ab) := by
    intro cs el cs' hc hl hlab hr
    obtain ⟨hm', hx⟩ := MR.write hm hl h1 h2 (w' := E.w.setRow k cs') rfl rfl rfl (by simp) (fun j hj => setRow_other E.w k j cs' hj) ab hr hlab
    refine ⟨hx, hm', fun j hj hn => setRow_other E.w k j cs' (fun e => hn (e ▸ ⟨b, bt, hl, h1, h2⟩)), by simp, fun j hj => .inl (owns_put hl hj), fun j hj => .inl hj⟩
  cases hmb : m b with
  | var t0 v0 =>
    rw [hmb] at hbl hst
    obtain ⟨hh, k', cs, el, hb, hc, hr⟩ := hbl
    rw [h1] at hb; cases hb; cases h2
    simp only [AB.store] at hst
    cases hv' : storeAV v0 p v with
    | none => simp [hv'] at hst
    | some v' =>
      simp [hv'] at hst; subst hst
      obtain ⟨hh', hr'⟩ := store_sound hv hd p v0 v' t0 o cs.toList hh hr h3.1 h3.2 hv'
      have hle := tyAt_le p t0 u' o h3.1 h3.2
      have hcl := has_cells hh hr
      obtain ⟨hx, hm', hf⟩ := hmem cs el (cs.toList.take o ++ d ++ cs.toList.drop (o + u'.size)).toArray hc (by rw [hmb]; trivial) trivial (fun hx => ⟨hh', _, _, el, h1, setRow_heap E.w _ cs _ el _ hc, by
        show RC _ v' _
        exact hr'.ext hx⟩)
      exact ⟨_, runit cs el hc (by rw [Array.length_toList] at hcl; omega), hx, hm', hf⟩
  | slab t0 xs =>
    rw [hmb] at hbl hst
    obtain ⟨htop, hbl⟩ := hbl
    rcases hbl with ⟨hb, _⟩ | ⟨k', cap, cs, el, css, rest, hb, hc, hcap, hlc, hml, hall, hfl⟩
    · rw [h1] at hb; cases hb; simp [BT.base] at h2
    · rw [h1] at hb; cases hb; cases h2
      cases p with
      | nil => simp [AB.store] at hst
      | cons s p =>
        cases s with
        | fld i => simp [AB.store] at hst
        | idx i =>
          cases v with
          | val u2 dd =>
            simp only [AB.store] at hst
            have := has_val hv; subst this
            obtain ⟨q, h4, rfl, h5, h6, h7⟩ := h3
            have hi : i.toNat < List.length xs := by omega
            obtain ⟨c, hcx, hdx⟩ := hall.get i.toNat _ (List.getElem?_eq_getElem hi)
            have hlat : lat xs i = xs[i.toNat] := by simp [lat, List.getD, List.getElem?_eq_getElem hi]
            rw [hlat] at hst
            obtain ⟨x', hx', hrx⟩ := Rd.setAt (show Rd E.w E.imm u2 dd d from hd) p t0 _ c q hdx h4 h7
            simp only [hx'] at hst
            cases hst
            have hle := tyAt_le p t0 u2 q h4 h7
            have hcl := hall.lens c (List.mem_of_getElem? hcx)
            have hfll : css.flatten.length = css.length * t0.size := flatten_len hall.lens
            have hxs : (i.toNat + 1) * t0.size ≤ css.length * t0.size := Nat.mul_le_mul_right _ (by rw [← hall.length]; omega)
            rw [Nat.add_mul, Nat.one_mul] at hxs
            have hcsl : cs.toList.length = css.flatten.length + rest.length := by rw [hfl]; simp
            have hle2 : i.toNat * t0.size + q + u2.size ≤ cs.size := by rw [Array.length_toList] at hcsl; omega
            have hflat := flatten_at hall.lens hcx
            obtain ⟨hx, hm', hf⟩ := hmem cs el (cs.toList.take (i.toNat * t0.size + q) ++ d ++ cs.toList.drop (i.toNat * t0.size + q + u2.size)).toArray hc (by rw [hmb]; trivial) trivial (fun hx => by
              refine ⟨by simpa [lput] using htop, .inr ⟨_, cap, _, el, css.set i.toNat (c.take q ++ d ++ c.drop (q + u2.size)), rest, by simpa [lput] using h1, setRow_heap E.w _ cs _ el _ hc, ?_, by simpa [lput] using hlc, hml, ?_, ?_⟩⟩
              · have := splice_len (cs := cs.toList) (o := i.toNat * t0.size + q) hdl (by rw [Array.length_toList]; exact hle2)
                rw [Array.length_toList] at this
                simpa [← hcap] using this
              · exact All2.set (Rd.ext hx hrx) i.toNat (hall.mono fun _ _ hr => Rd.ext hx hr)
              · rw [flatten_set hall.lens (by rw [← hall.length]; exact hi)]
                have e1 := splice_in (e := css.flatten.drop (i.toNat * t0.size + t0.size) ++ rest) (d' := d) (m := q) (c := css.flatten.take (i.toNat * t0.size)) (o := i.toNat * t0.size)
                  (by rw [List.length_take]; omega) hcl (by omega)
                have e2 : css.flatten.take (i.toNat * t0.size) ++ c ++ (css.flatten.drop (i.toNat * t0.size + t0.size) ++ rest) = cs.toList := by
                  rw [hfl]; conv => rhs; rw [hflat]
                  simp
                rw [e2, hdl] at e1
                show (cs.toList.take (i.toNat * t0.size + q) ++ d ++ cs.toList.drop (i.toNat * t0.size + q + u2.size)) = _
                rw [e1]; simp)
            exact ⟨_, runit cs el hc hle2, hx, hm', hf⟩
          | _ => simp [AB.store] at hst
  | map x y mm => rw [hmb] at hst; simp [AB.store] at hst
  | none => rw [hmb] at hst; simp [AB.store] at hst
  | dead => rw [hmb] at hst; simp [AB.store] at hst
  | frz t xs => rw [hmb] at hst; simp [AB.store] at hst
theorem storeK_ok {R : Type} {C : Ctx} {m : Mem} {x v : AV} {K : Mem → Option R} {y : R} (h : storeK T tid m x v K = some y) :
    ∃ m', K m' = some y ∧ ∀ E a z U, RV E x a → RV E v z → MR C E m U → ∃ E', (Instr.storeAt tid a z).run P E.w = .ok () E'.w ∧ Ext E E' ∧ MR C E' m' U ∧ Frm E m E' m' := by
  unfold storeK at h
  split at h
  · rename_i t b p he
    split at h
    · rename_i u hty hv
      split at h
      · rename_i ab heq hst
        have hnp := tab_noprod hT he
        exact ⟨_, h, fun E a z U ha hz hm => storeP_ok ⟨fun a b e => hnp.1 a b (by rw [e]), fun e => hnp.2 (by rw [e])⟩ (run_sizeOf' hT he) hty hv heq hst ha hz hm⟩
      · cases h
    · cases h
  · rename_i kt vt b p he
    split at h
    · rename_i c hty
      split at h
      · rename_i ab hst
        exact ⟨_, h, fun E a z U ha hz hm => storeP_ok (t := .bool) ⟨fun _ _ e => (by cases e), fun e => (by cases e)⟩ (run_sizeOf' hT he) hty rfl rfl hst ha hz hm⟩
      · cases h
    · cases h
  · rename_i b p he
    split at h
    · rename_i c q hty
      split at h
      · rename_i ab hst
        exact ⟨_, h, fun E a z U ha hz hm => storeP_ok (t := .bool) ⟨fun _ _ e => (by cases e), fun e => (by cases e)⟩ (run_sizeOf' hT he) hty rfl rfl hst ha hz hm⟩
      · cases h
    · cases h
  · cases h
end
end Go.Co
end

section
namespace Go.Co
open Go.RowKit

/-- A part laid into cells. -/
theorem lay_cells (d : List Value) : ∀ (off : Nat) (cells : Array Value), off + d.length ≤ cells.size →
    (d.toArray.zipIdx.foldl (fun cs (x : Value × Nat) => cs.setIfInBounds (off + x.2) x.1) cells) = (cells.toList.take off ++ d ++ cells.toList.drop (off + d.length)).toArray := by
  have key : ∀ (d : List Value) (k off : Nat) (cells : Array Value), off + k + d.length ≤ cells.size →
      ((d.zipIdx k).foldl (fun cs (x : Value × Nat) => cs.setIfInBounds (off + x.2) x.1) cells) = (cells.toList.take (off + k) ++ d ++ cells.toList.drop (off + k + d.length)).toArray := by
    intro d
    induction d with
    | nil => intro k off cells h; simp
    | cons v d ih =>
      intro k off cells h
      simp only [List.length_cons] at h
      rw [List.zipIdx_cons, List.foldl_cons, ih (k + 1) off _ (by simp; omega)]
      congr 1
      have e := list_seg_step cells.toList (off + k) v d (by simp; omega)
      simp only [Array.toList_setIfInBounds]
      rw [show off + (k + 1) = off + k + 1 by omega]
      simpa [Nat.add_assoc] using e
  intro off cells h
  have := key d 0 off cells (by simpa using h)
  rw [← Array.foldl_toList]
  simpa using this
theorem fill_cons {place : Nat → Option (Nat × Nat)} {cells : Array Value} {i : Nat} {v : Value} {rest : List (Nat × Value)} {off size : Nat} {d : List Value} (hp : place i = some (off, size)) (hd : v.cells.toList = d) (hs : d.length = size) (hle : off + size ≤ cells.size) :
    Instr.fill place cells ((i, v) :: rest) = Instr.fill place (cells.toList.take off ++ d ++ cells.toList.drop (off + size)).toArray rest := by
  have hv : v.cells = d.toArray := by apply Array.ext'; simpa using hd
  have h1 : v.cells.size = size := by rw [hv]; simpa using hs
  have h2 := lay_cells d off cells (by omega)
  simp only [Instr.fill, hp, h1]
  rw [if_neg (by simp; omega), hv, h2, hs]

section
variable {P : Program} {T : Tab} (hT : TabOK P T) {tid : Nat}
include hT
/-! ### Structs and arrays -/
omit hT in
theorem setParts_ok {E : Env} {b : Ty} {place : Nat → Option (Nat × Nat)} (hpl : ∀ i u, nthTy b i = some u → place i = some (nthOff b i, u.size) ∧ (∀ x y, u ≠ .prod x y) ∧ u ≠ .unit) (hb : ∀ i u, nthTy b i = some u → nthOff b i + u.size ≤ b.size) :
    ∀ (parts : List (Nat × AV)) (vals : List (Nat × Value)) (l l' : AV) (cs : List Value), All2 (fun (p : Nat × AV) (q : Nat × Value) => p.1 = q.1 ∧ RV E p.2 q.2) parts vals → l.has b = true → RC E l cs → setParts b l parts = some l' →
      ∃ cs', Instr.fill place cs.toArray vals = some cs'.toArray ∧ l'.has b = true ∧ RC E l' cs' := by
  intro parts
  induction parts with
  | nil =>
    intro vals l l' cs hv hh hr hs
    cases vals with
    | nil => simp [setParts] at hs; subst hs; exact ⟨cs, rfl, hh, hr⟩
    | cons q vals => exact hv.elim
  | cons p parts ih =>
    intro vals l l' cs hv hh hr hs
    cases vals with
    | nil => exact hv.elim
    | cons q vals =>
      obtain ⟨⟨he, hq⟩, hv⟩ := hv
      obtain ⟨i, v⟩ := p
      obtain ⟨j, x⟩ := q
      simp only at he hq
      subst he
      simp only [setParts] at hs
      cases hn : nthTy b i with
      | none => simp [hn] at hs
      | some u =>
        simp only [hn] at hs
        split at hs
        · rename_i l2 hvu hl2
          obtain ⟨d, rfl, hd⟩ := hq.cells (by rintro rfl; simp [AV.has] at hvu) (by rintro l rfl; simp [AV.has] at hvu)
          obtain ⟨hp, hnp, hnu⟩ := hpl i u hn
          have hdc : (pk v.isAgg d).cells.toList = d := hd.cells (by rintro rfl; cases u <;> simp [AV.has] at hvu; exact hnu rfl) (by rintro a l rfl; cases u <;> simp [AV.has] at hvu; exact hnp _ _ rfl)
          have hdl := has_cells hvu hd
          have hcl := has_cells hh hr
          have hle := hb i u hn
          obtain ⟨h1, h2⟩ := RC.setNth hh hr hn hvu hd hl2
          obtain ⟨cs', h3, h4, h5⟩ := ih vals l2 l' _ hv h1 h2 hs
          refine ⟨cs', ?_, h4, h5⟩
          rw [fill_cons hp hdc hdl (by simp; omega)]
          exact h3
        · cases hs
omit hT in
theorem packBody_ok {E : Env} : ∀ (b : Ty) (l : AV) (y : b.den) (cs : List Value), packBody b l = some y → RC E l cs → Rd E.w E.imm b y cs := by
  intro b
  induction b with
  | unit =>
    intro l y cs h hr
    cases l <;> simp [packBody] at h
    rw [Rd.unit]; exact hr
  | prod x z _ ihz =>
    intro l y cs h hr
    cases l <;> try (simp [packBody] at h; done)
    rename_i a l
    cases a <;> try (simp [packBody] at h; done)
    rename_i t d
    simp only [packBody] at h
    split at h
    · rename_i p q hp hq
      cases h
      obtain ⟨c, e, rfl, h1, h2⟩ := hr
      obtain ⟨e1, hx⟩ := cast?_some hp
      subst e1; subst hx
      rw [Rd.prod]
      exact ⟨c, e, rfl, h1, ihz l q e hq h2⟩
    · cases h
  | _ => intro l y cs h; simp [packBody] at h
omit hT in
theorem nthOff_le : ∀ (b u : Ty) (i : Nat), nthTy b i = some u → nthOff b i + u.size ≤ b.size := by
  intro b
  induction b with
  | prod a b _ ihb =>
    intro u i hn
    cases i with
    | zero => simp [nthTy] at hn; subst hn; simp [nthOff, Ty.size]
    | succ i => have := ihb u i hn; simp [nthOff, Ty.size]; omega
  | _ => intro u i hn; cases i <;> simp [nthTy] at hn
theorem buildSt_ok {s : St} (he : T.get tid = some (.ty (.st s))) {parts : List (Nat × AV)} {v : AV} (h : buildSt s parts = some v) {E : Env} {vals : Array (Nat × Value)}
    (hv : All2 (fun (p : Nat × AV) (q : Nat × Value) => p.1 = q.1 ∧ RV E p.2 q.2) parts vals.toList) : ∃ z, (Instr.build tid vals).run P E.w = .ok z E.w ∧ RV E v z := by
  obtain ⟨⟨fs, hu, hf, _⟩, ⟨it, hit, _, _, hz⟩, _⟩ := hT tid _ he
  unfold buildSt at h
  split at h
  · rename_i l hl
    obtain ⟨h1, h2⟩ := exZero_ok (E := E) s.body (isBody_body s)
    -- the places of the fields
    have hplaces : ∀ (fl : List Field) (b : Ty) (o : Nat), fldsOK T fl o b → ∃ pl, fl.mapM (fun f => (P.info? f.type).map fun i => (f.offset, i.size)) = some pl ∧ ∀ i u, nthTy b i = some u → pl[i]? = some (o + nthOff b i, u.size) ∧ (∀ x y, u ≠ .prod x y) ∧ u ≠ .unit := by
      intro fl
      induction fl with
      | nil => intro b o hf; exact ⟨[], rfl, fun i u hn => by cases b <;> simp [fldsOK] at hf; cases i <;> simp [nthTy] at hn⟩
      | cons f fl ih =>
        intro b o hf
        cases b <;> simp only [fldsOK] at hf
        rename_i a b
        obtain ⟨h1, h2, _, _, h5⟩ := hf
        obtain ⟨pl, hpl, hq⟩ := ih b (o + a.size) h5
        obtain ⟨_, ⟨i, hi, hs, _⟩, _⟩ := hT f.type _ h2
        have hnp := tab_noprod hT h2
        refine ⟨(f.offset, i.size) :: pl, by simp [List.mapM_cons, hi, hpl], fun j u hn => ?_⟩
        cases j with
        | zero => simp [nthTy] at hn; subst hn; exact ⟨by simp [nthOff, h1, hs], fun x y e => hnp.1 x y (by rw [e]), fun e => hnp.2 (by rw [e])⟩
        | succ j =>
          obtain ⟨q1, q2⟩ := hq j u hn
          exact ⟨by simp [nthOff, q1]; omega, q2⟩
    obtain ⟨pl, hpl, hq⟩ := hplaces fs.toList s.body 0 hf
    obtain ⟨cs', h3, h4, h5⟩ := setParts_ok (place := (pl.toArray[·]?)) (fun i u hn => by
      obtain ⟨q1, q2⟩ := hq i u hn
      exact ⟨by simpa using q1, q2⟩) (fun i u hn => nthOff_le _ _ _ hn) parts vals.toList _ l _ hv h1 h2 hl
    have hzb : zcells (.st s) = zcells s.body := zcN_body s
    have hzc : (pk (Ty.st s).agg (zcells (.st s))).cells = (zcells s.body).toArray := by rw [hzb]; rfl
    have hbuilt : P.built tid vals.toList = some cs'.toArray := by
      unfold Program.built
      simp only [hit, hu, hz, hpl, hzc]
      exact h3
    have hrun := run_build E.w tid vals cs'.toArray hbuilt
    split at h
    · rename_i y hy
      cases h
      exact ⟨_, hrun, cs', rfl, Rd.st.2 (by rw [St.unpack_pack]; exact packBody_ok _ _ _ _ hy h5)⟩
    · cases h
      exact ⟨_, hrun, cs', rfl, h5⟩
  · cases h
theorem buildArr_ok {n : Nat} {t : Ty} (he : T.get tid = some (.ty (.arr n t))) {parts : List (Nat × AV)} {a : Arr n t.den} (h : buildArr n t (Vector.replicate n t.zero) parts = some a) {E : Env} {vals : Array (Nat × Value)}
    (hv : All2 (fun (p : Nat × AV) (q : Nat × Value) => p.1 = q.1 ∧ RV E p.2 q.2) parts vals.toList) : ∃ z, (Instr.build tid vals).run P E.w = .ok z E.w ∧ RV E (.val (.arr n t) a) z := by
  obtain ⟨⟨eid, hu, heid⟩, ⟨it, hit, _, _, hz⟩, _⟩ := hT tid _ he
  obtain ⟨_, ⟨ie, hie, hes, _⟩, _⟩ := hT eid _ heid
  have key : ∀ (parts : List (Nat × AV)) (vals : List (Nat × Value)) (a a' : Arr n t.den) (cs : List Value), All2 (fun (p : Nat × AV) (q : Nat × Value) => p.1 = q.1 ∧ RV E p.2 q.2) parts vals → Rd E.w E.imm (.arr n t) a cs → buildArr n t a parts = some a' →
      ∃ cs', Instr.fill (fun i => some (i * t.size, t.size)) cs.toArray vals = some cs'.toArray ∧ Rd E.w E.imm (.arr n t) a' cs' := by
    intro parts
    induction parts with
    | nil =>
      intro vals a a' cs hv hr hs
      cases vals with
      | nil => simp [buildArr] at hs; subst hs; exact ⟨cs, rfl, hr⟩
      | cons q vals => exact hv.elim
    | cons p parts ih =>
      intro vals a a' cs hv hr hs
      cases vals with
      | nil => exact hv.elim
      | cons q vals =>
        obtain ⟨⟨heq, hq⟩, hv⟩ := hv
        obtain ⟨i, v⟩ := p
        obtain ⟨j, x⟩ := q
        simp only at heq hq
        subst heq
        cases v <;> try (simp [buildArr] at hs; done)
        rename_i u d
        simp only [buildArr] at hs
        split at hs
        · rename_i y hi hc
          obtain ⟨e1, hx⟩ := cast?_some hc
          subst e1; subst hx
          have hi : i < n := by simpa using hi
          obtain ⟨c, rfl, hc⟩ := hq
          have hc : Rd E.w E.imm u d c := hc
          obtain ⟨x', hx', hr'⟩ := Rd.setAt hc [.idx (i : Int)] (.arr n u) a cs (i * u.size) hr (by simp [tyAt]) ⟨by omega, by omega, trivial⟩
          simp [setAt, cast?_self] at hx'
          subst hx'
          obtain ⟨cs', h3, h4⟩ := ih vals _ a' _ hv hr' hs
          refine ⟨cs', ?_, h4⟩
          have hcl := Rd.len _ _ _ hr
          have hle : (i + 1) * u.size ≤ n * u.size := Nat.mul_le_mul_right _ hi
          rw [Nat.add_mul, Nat.one_mul] at hle
          have e1 : (AV.val u d).isAgg = u.agg := rfl
          rw [e1, fill_cons (off := i * u.size) (size := u.size) rfl hc.cells (Rd.len _ _ _ hc) (by simp only [List.size_toArray, hcl, Ty.size]; exact hle)]
          exact h3
        · cases hs
  have hz0 : Rd E.w E.imm (.arr n t) (Vector.replicate n t.zero) (zcells (.arr n t)) := Rd.zero _ _ (.arr n t)
  obtain ⟨cs', h3, h4⟩ := key parts vals.toList _ a _ hv hz0 h
  have hbuilt : P.built tid vals.toList = some cs'.toArray := by
    unfold Program.built
    simp only [hit, hu, hz, hie, hes]
    exact h3
  exact ⟨_, run_build E.w tid vals cs'.toArray hbuilt, cs', rfl, h4⟩

/-! ### Slices' literals -/
omit hT in
theorem rep_cells (z : List Value) (n : Nat) : ((Array.range (n * z.length)).map (fun i => z.toArray[i % z.toArray.size]!)) = (List.replicate n z).flatten.toArray := by
  apply Array.ext'
  simp only [Array.toList_map, Array.toList_range]
  induction n with
  | zero => simp
  | succ n ih =>
    rw [Nat.add_mul, Nat.one_mul, List.range_add, List.map_append, ih, List.replicate_succ', List.flatten_append]
    congr 1
    simp only [List.map_map]
    apply List.ext_getElem?
    intro j
    by_cases hj : j < z.length
    · simp [hj, Nat.mod_eq_of_lt]
    · simp [hj]
theorem buildSlice_ok {C : Ctx} {e : Ty} {n : Nat} {U : Nat → Prop} {nx : Nat} (he : T.get tid = some (.ty (.list e))) (hn : n * e.size ≤ 16777216) (hn1 : n ≤ 16777216) (hnb : n * e.bytes ≤ top) {m m' : Mem} {parts : List (Nat × AV)} {l : List e.den}
    (h : buildRow m e (List.replicate n e.zero) parts = some (l, m')) {E : Env} {vals : Array (Nat × Value)} (hm : MR C E m U) (hN : ¬ U nx)
    (hv : All2 (fun (p : Nat × AV) (q : Nat × Value) => p.1 = q.1 ∧ RV E p.2 q.2) parts vals.toList) :
    ∃ z E', (Instr.buildSlice tid n vals).run P E.w = .ok z E'.w ∧ Ext E E' ∧ MR C E' (m'.put nx (.slab e l)) (fun b => U b ∨ b = nx) ∧ Frm E m E' (m'.put nx (.slab e l)) ∧ RV E' (.sl nx) z := by
  obtain ⟨⟨eid, hu, heid⟩, _⟩ := hT tid _ he
  obtain ⟨_, ⟨ie, hie, hes, _, hze⟩, _⟩ := hT eid _ heid
  have hsz : (sizeOf eid).run P E.w = .ok e.size E.w := run_sizeOf' hT heid E.w
  have hzl := zcells_len e
  have key : ∀ (parts : List (Nat × AV)) (vals : List (Nat × Value)) (E0 : Env) (m m' : Mem) (l l' : List e.den) (css : List (List Value)), E0.w = E.w → All2 (fun (p : Nat × AV) (q : Nat × Value) => p.1 = q.1 ∧ RV E0 p.2 q.2) parts vals → MR C E0 m U → List.length l = n → All2 (Rd E0.w E0.imm e) l css → buildRow m e l parts = some (l', m') →
      ∃ css' E1, E1.w = E.w ∧ Instr.fill (fun i => some (i * e.size, e.size)) css.flatten.toArray vals = some css'.flatten.toArray ∧ Ext E0 E1 ∧ MR C E1 m' U ∧ Frm E0 m E1 m' ∧ List.length l' = n ∧ All2 (Rd E1.w E1.imm e) l' css' := by
    intro parts
    induction parts with
    | nil =>
      intro vals E0 m m' l l' css hw hv hm hl hr hs
      cases vals with
      | nil => simp [buildRow] at hs; obtain ⟨rfl, rfl⟩ := hs; exact ⟨css, E0, hw, rfl, Ext.refl _, hm, Frm.refl _ _, hl, hr⟩
      | cons q vals => exact hv.elim
    | cons p parts ih =>
      intro vals E0 m m' l l' css hw hv hm hl hr hs
      cases vals with
      | nil => exact hv.elim
      | cons q vals =>
        obtain ⟨⟨heq, hq⟩, hv⟩ := hv
        obtain ⟨i, v⟩ := p
        obtain ⟨j, x⟩ := q
        simp only at heq hq
        subst heq
        simp only [buildRow] at hs
        split at hs
        · rename_i y hi hg hp
          have hi : i < n := by rw [← hl]; simpa using hi
          obtain ⟨im, hk1, hk2, hk3, hk4⟩ := kill_MR v hm
          have hvnj : v ≠ .junk := by rintro rfl; simp [toPure] at hp
          have hvnt : ∀ l, v ≠ .tup l := by rintro l rfl; simp [toPure] at hp
          obtain ⟨c, rfl, hc⟩ := hq.cells hvnj hvnt
          have hnp := tab_noprod hT heid
          have hvn : v ≠ .nil := by rintro rfl; cases e <;> simp [toPure] at hp; exact hnp.2 rfl
          have hvc : ∀ a l, v ≠ .cons a l := by rintro a l rfl; cases e <;> simp [toPure] at hp; exact hnp.1 _ _ rfl
          have hcc := hc.cells hvn hvc
          have hrd : Rd E0.w im e y c := toPure_RC hm (fun k hk => (hk2.imm k hk).1) v e y c hp hc (fun b bt k hb hl hbt hk => hk3 hg b bt k hb hl hbt hk)
          have hE1w : ({ E0 with imm := im } : Env).w = E.w := hw
          have hv' : All2 (fun (p : Nat × AV) (q : Nat × Value) => p.1 = q.1 ∧ RV { E0 with imm := im } p.2 q.2) parts vals := hv.mono fun p q hpq => ⟨hpq.1, hpq.2.ext hk2⟩
          have hr' : All2 (Rd E0.w im e) (l.set i y) (css.set i c) := All2.set hrd i (hr.mono fun _ _ h => Rd.ext hk2 h)
          have hcl : css.length = n := by rw [← hr.length, hl]
          obtain ⟨css', E2, h1, h2, h3, h4, h5, h6, h7⟩ := ih vals { E0 with imm := im } _ m' (l.set i y) l' (css.set i c) hE1w hv' hk1 (by simpa using hl) hr' hs
          have hfrm : Frm E0 m { E0 with imm := im } (kill v m) := Frm.kill (fun j hj => kill_owns hj) hk4
          refine ⟨css', E2, h1, ?_, hk2.trans h3, h4, hfrm.trans h5, h6, h7⟩
          · rw [fill_cons rfl hcc (Rd.len _ _ _ hrd) (by
              have := flatten_len (n := e.size) hr.lens
              have hle : (i + 1) * e.size ≤ n * e.size := Nat.mul_le_mul_right _ hi
              rw [Nat.add_mul, Nat.one_mul] at hle
              simp only [List.size_toArray]; rw [this, hcl]; exact hle)]
            rw [← h2, flatten_set hr.lens (by omega)]
        · cases hs
  have hz0 : All2 (Rd E.w E.imm e) (List.replicate n e.zero) (List.replicate n (zcells e)) := All2.replicate (Rd.zero _ _ e) n
  obtain ⟨css, E1, h1, h2, h3, h4, h5, h6, h7⟩ := key parts vals.toList E m m' _ l _ rfl hv hm (by simp) hz0 h
  have hzc : (pk e.agg (zcells e)).cells = (zcells e).toArray := by
    apply Array.ext'; simpa using (Rd.zero E.w (fun _ => False) e).cells
  have hfl := flatten_len (n := e.size) h7.lens
  have hb : E1.w.heap.size = E.w.heap.size := by rw [h1]
  obtain ⟨E2, g1, g2, g3, g4, g5⟩ := alloc_ok h4 hN (.cells css.flatten.toArray eid) (.slab E1.w.heap.size e n n) rfl (.slab e l) (fun hx => by
    refine ⟨by rw [h6]; exact hnb, .inr ⟨E1.w.heap.size, n, css.flatten.toArray, eid, css, [], by simp [Env.name, h6], by show (E1.w.heap.push _)[E1.w.heap.size]? = _; rw [Array.getElem?_push, if_pos rfl], ?_, by rw [h6]; exact Nat.le_refl _, ?_, h7.mono fun _ _ hr => Rd.ext hx hr, by simp⟩⟩
    · simp only [List.size_toArray]; rw [hfl, ← h7.length, h6]
    · unfold maxLen
      omega)
  refine ⟨.slice (some ⟨E.w.heap.size, 0, none⟩) n n, E2, ?_, h3.trans g3, g4, h5.trans g5, ⟨_, rfl, .inr ⟨E1.w.heap.size, e, n, n, g2, by rw [hb]⟩⟩⟩
  have h24 : ¬ 2 ^ 24 < n * e.size := by omega
  have hzv : (zeroValue eid).run P E.w = .ok (pk e.agg (zcells e)) E.w := run_zeroValue' hT heid E.w
  have hinit : ∀ z : Array Value, (z = if n * e.size = 0 then (#[] : Array Value) else (zcells e).toArray) → ((Array.range (n * e.size)).map (z[· % z.size]!)) = (List.replicate n (zcells e)).flatten.toArray := by
    intro z hz
    by_cases h0 : n * e.size = 0
    · have hln : ((List.replicate n (zcells e)).flatten).length = n * e.size := by rw [flatten_len (n := e.size) (fun c hc => by rw [(List.mem_replicate.1 hc).2, hzl])]; simp
      rw [h0] at hln
      rw [List.length_eq_zero_iff.1 hln, h0]; simp
    · rw [if_neg h0] at hz
      subst hz
      have := rep_cells (zcells e) n
      rw [hzl] at this
      exact this
  rw [g1, h1]
  by_cases h0 : n * e.size = 0
  · have hi := hinit #[] (by rw [if_pos h0])
    rw [h0] at hi
    rw [← hi] at h2
    simp at h2
    simp [Instr.buildSlice, run_underlying hu, hsz, h0, newRow, h2]
  · have hi := hinit (zcells e).toArray (by rw [if_neg h0])
    rw [← hi] at h2
    simp at h2
    simp [Instr.buildSlice, run_underlying hu, hsz, h24, h0, newRow, hzv, hzc, h2]
theorem makeSlice_ok {C : Ctx} {e : Ty} {U : Nat → Prop} {nx : Nat} (he : T.get tid = some (.ty (.list e))) (kl kc : IntKind) (l c : Int) (h0 : 0 ≤ l) (h1 : l ≤ c) (hb : c * (e.bytes : Int) ≤ (top : Int)) (hpos : 1 ≤ e.bytes) {m : Mem} {E : Env} (hm : MR C E m U) (hN : ¬ U nx) :
    ∃ z E', (Instr.makeSlice tid (.int kl l) (.int kc c)).run P E.w = .ok z E'.w ∧ Ext E E' ∧ MR C E' (m.put nx (.slab e (List.replicate l.toNat e.zero))) (fun b => U b ∨ b = nx) ∧ Frm E m E' (m.put nx (.slab e (List.replicate l.toNat e.zero))) ∧ RV E' (.sl nx) z := by
  obtain ⟨⟨eid, hu, heid⟩, _⟩ := hT tid _ he
  obtain ⟨_, ⟨ie, hie, hes, heb, hze⟩, _⟩ := hT eid _ heid
  obtain ⟨l, rfl⟩ : ∃ n : Nat, l = n := ⟨l.toNat, by omega⟩
  obtain ⟨c, rfl⟩ : ∃ n : Nat, c = n := ⟨c.toNat, by omega⟩
  have hbn : c * e.bytes ≤ top := by
    have : ((c * e.bytes : Nat) : Int) ≤ (top : Int) := by rw [Int.natCast_mul]; exact hb
    omega
  have htop : top = 140737488355328 := rfl
  have hc : c ≤ top := Nat.le_trans (Nat.le_mul_of_pos_right _ hpos) hbn
  have hlc : l ≤ c := by omega
  have hzl := zcells_len e
  have hzc : (pk e.agg (zcells e)).cells = (zcells e).toArray := by
    apply Array.ext'; simpa using (Rd.zero E.w (fun _ => False) e).cells
  have hrun := run_make (P := P) E.w tid eid ie (pk e.agg (zcells e)) hu hie hze kl kc (l : Int) (c : Int) h0 h1 (by
    rw [heb, Int.mul_comm]
    have : (top : Int) ≤ 281474976710656 := by rw [htop]; decide
    omega) (by omega)
  have hcells : madeCells (pk e.agg (zcells e)).cells (c * ie.size) = (List.replicate c (zcells e)).flatten.toArray := by
    rw [hzc, hes]
    have := rep_cells (zcells e) c
    rw [hzl] at this
    unfold madeCells
    simp only [List.size_toArray, hzl] at this ⊢
    exact this
  simp only [Int.toNat_natCast] at hrun ⊢
  rw [hcells] at hrun
  have hsplit : (List.replicate c (zcells e)).flatten = (List.replicate l (zcells e)).flatten ++ (List.replicate (c - l) (zcells e)).flatten := by
    rw [← List.flatten_append, List.replicate_append_replicate]
    congr 2; omega
  have hcl : ∀ cl ∈ List.replicate c (zcells e), cl.length = e.size := fun cl hcl => by rw [(List.mem_replicate.1 hcl).2, hzl]
  obtain ⟨E2, g1, g2, g3, g4, g5⟩ := alloc_ok hm hN (.cells (List.replicate c (zcells e)).flatten.toArray eid) (.slab E.w.heap.size e c l) rfl (.slab e (List.replicate l e.zero)) (fun hx => by
    refine ⟨by rw [List.length_replicate]; exact Nat.le_trans (Nat.mul_le_mul_right _ hlc) hbn, .inr ⟨E.w.heap.size, c, _, eid, List.replicate l (zcells e), (List.replicate (c - l) (zcells e)).flatten, by simp [Env.name], by show (E.w.heap.push _)[E.w.heap.size]? = _; rw [Array.getElem?_push, if_pos rfl], ?_, by rw [List.length_replicate]; exact hlc, by unfold maxLen; omega, All2.replicate (Rd.zero _ _ e) l, ?_⟩⟩
    · simp only [List.size_toArray]; rw [flatten_len hcl]; simp
    · simpa using hsplit)
  exact ⟨.slice (some ⟨E.w.heap.size, 0, none⟩) l c, E2, by rw [hrun, g1], g3, g4, g5, ⟨_, rfl, .inr ⟨E.w.heap.size, e, c, l, g2, rfl⟩⟩⟩
end
end Go.Co
end

section
namespace Go.Co
open Go.RowKit

/-- A row, as the model has it. -/
def RowIs (E : Env) (t : Ty) (ys : List t.den) (z : Value) : Prop :=
  (z = .slice none 0 0 ∧ ys = []) ∨ ∃ a cap css, z = .slice (some a) (List.length ys) cap ∧ (ys ≠ [] → a.spot = none) ∧ All2 (Rd E.w E.imm t) ys css ∧ ∀ j v, css.flatten[j]? = some v → E.w.cell? ⟨a.block, a.off + j, none⟩ = some v

section
variable {P : Program} {T : Tab} {C : Ctx} {E : Env} {m : Mem} {U : Nat → Prop}
theorem rowOf_ok (hm : MR C E m U) {x : AV} {t : Ty} {ys : List t.den} (h : rowOf m x t = some ys) {z : Value} (hz : RV E x z) : RowIs E t ys z := by
  unfold rowOf at h
  split at h
  · rename_i e xs
    obtain ⟨e1, hx⟩ := cast?_some h
    cases e1
    have hx : xs = ys := hx
    subst hx
    obtain ⟨cs, rfl, hr⟩ := hz
    obtain ⟨_, hr⟩ := Rd.list.1 (show Rd E.w E.imm (.list t) xs cs from hr)
    rcases hr with ⟨rfl, rfl⟩ | ⟨a, cap, css, rfl, hs, _, _, hall, _, hc⟩
    · exact .inl ⟨rfl, rfl⟩
    · exact .inr ⟨a, cap, css, rfl, hs, hall, hc⟩
  · cases h
    obtain ⟨cs, rfl, hr⟩ := hz
    have : cs = [.slice none 0 0] := hr
    subst this
    exact .inl ⟨rfl, rfl⟩
  · rename_i b
    split at h
    · rename_i e xs hmb
      obtain ⟨e1, hx⟩ := cast?_some h
      cases e1
      have hx : xs = ys := hx
      subst hx
      obtain ⟨cs, rfl, hr⟩ := hz
      have hb := hm.blocks b
      rw [hmb] at hb
      obtain ⟨_, hb⟩ := hb
      rcases hb with ⟨hb, rfl⟩ | ⟨k, cap, cells, el, css, rest, hb, hcell, hsz, hlen, hcap, hall, hflat⟩
      · rcases hr with ⟨t', hb', rfl⟩ | ⟨k, t', cap, len, hb', rfl⟩
        · exact .inl ⟨rfl, rfl⟩
        · rw [hb] at hb'; cases hb'
      · rcases hr with ⟨t', hb', rfl⟩ | ⟨k', t', cap', len, hb', rfl⟩
        · rw [hb] at hb'; cases hb'
        · rw [hb] at hb'
          cases hb'
          refine .inr ⟨⟨k, 0, none⟩, cap, css, rfl, fun _ => rfl, hall, fun j v hv => ?_⟩
          have : cells[j]? = some v := by
            rw [← Array.getElem?_toList, hflat, List.getElem?_append_left (List.getElem?_eq_some_iff.1 hv).1]
            exact hv
          simp [World.cell?, hcell, this]
    · cases h
  · rename_i b p
    split at h
    · rename_i n e x hm1
      obtain ⟨e1, hx⟩ := cast?_some h
      cases e1
      have hx : x.toList = ys := hx
      subst hx
      obtain ⟨cs, rfl, k, tv, n', u', o, hb, hty, hin, hb1, hb2, rfl⟩ := hz
      cases hmb : m b with
      | var t2 v2 =>
        rw [hmb] at hm1
        have hbl := hm.blocks b
        rw [hmb] at hbl
        obtain ⟨hh, k2, cells, el, hq2, hcell, hrc⟩ := hbl
        rw [hb] at hq2; cases hq2
        obtain ⟨hy, c, d, e', hcs, hcl, hrd⟩ := load_sound p _ _ _ _ _ _ hh hrc hty hin hm1
        have := has_val hy
        cases this
        have hrd : Rd E.w E.imm (.arr n t) x d := hrd
        rw [Rd.arr] at hrd
        obtain ⟨css, rfl, hall⟩ := hrd
        refine .inr ⟨⟨k, o, none⟩, n, css, by simp [pk, AV.isAgg], fun _ => rfl, hall, fun j v hv => ?_⟩
        have : cells[o + j]? = some v := by
          rw [← Array.getElem?_toList, hcs, ← hcl, List.append_assoc, List.getElem?_append_right (by omega), Nat.add_sub_cancel_left, List.getElem?_append_left (List.getElem?_eq_some_iff.1 hv).1]
          exact hv
        simp [World.cell?, hcell, this]
      | slab t2 xs2 =>
        have hbl := hm.blocks b
        rw [hmb] at hbl
        obtain ⟨_, hbl⟩ := hbl
        rcases hbl with ⟨hb2, _⟩ | ⟨_, _, _, _, _, _, hb2, _⟩ <;> (rw [hb] at hb2; cases hb2)
      | _ => rw [hmb] at hm1; simp [AB.load] at hm1
    · cases h
  · cases h

theorem run_append_room' (w : World) {t ty e : TypeId} {i : TypeInfo} (ht : P.underlying t = some (.slice e)) (hi : P.info? e = some i)
    {g sLen sCap : Nat} {el : TypeId} {cur : Array Value} (hg : w.heap[g]? = some (.cells cur el (0, 0)))
    {z : Value} {m : Nat} {news : List Value} (_ : news.length = m * i.size) (hn : (Builtin.lenOf z).run P w = .ok m w) (hf : (Builtin.firstCells i.size m z).run P w = .ok news.toArray w) (h1 : ∀ u ∈ news, u.oneCell' = true)
    (hroom : sLen + m ≤ sCap) (hfit : sLen * i.size + news.length ≤ cur.size) :
    (Builtin.append_ #[t, t] ty #[.slice (some ⟨g, 0, none⟩) sLen sCap, z]).run P w =
      .ok (.slice (some ⟨g, 0, none⟩) (sLen + m) sCap) (w.setRow g (cur.toList.take (sLen * i.size) ++ news ++ cur.toList.drop (sLen * i.size + news.length)).toArray) := by
  have hst := run_storeCells_at P g (sLen * i.size) el news 0 cur w hg (by simpa using hfit) h1
  simp only [Nat.add_zero] at hst
  simp [Builtin.append_, run_underlying ht, sizeOf, typeInfo, hi, hn, hroom, hf, Addr.add_lit, hst]
theorem run_append_none (w : World) {t ty e : TypeId} {i : TypeInfo} (ht : P.underlying t = some (.slice e)) (hi : P.info? e = some i)
    {z : Value} (hn : (Builtin.lenOf z).run P w = .ok 0 w) (hf : (Builtin.firstCells i.size 0 z).run P w = .ok #[] w) :
    (Builtin.append_ #[t, t] ty #[.slice none 0 0, z]).run P w = .ok (.slice none 0 0) w := by
  simp [Builtin.append_, run_underlying ht, sizeOf, typeInfo, hi, hn, hf]
theorem RowIs.len {t : Ty} {ys : List t.den} {z : Value} (h : RowIs E t ys z) (w : World) : (Builtin.lenOf z).run P w = .ok (List.length ys) w := by
  rcases h with ⟨rfl, rfl⟩ | ⟨a, cap, css, rfl, _⟩ <;> simp [Builtin.lenOf]
theorem RowIs.first {t : Ty} {ys : List t.den} {z : Value} (h : RowIs E t ys z) : ∃ css, All2 (Rd E.w E.imm t) ys css ∧ (Builtin.firstCells t.size (List.length ys) z).run P E.w = .ok css.flatten.toArray E.w ∧
    (ys ≠ [] → ∃ a cap, z = .slice (some a) (List.length ys) cap ∧ ∀ j v, css.flatten[j]? = some v → E.w.cell? (a.add j) = some v) := by
  rcases h with ⟨rfl, rfl⟩ | ⟨a, cap, css, rfl, hs, hall, hc⟩
  · exact ⟨[], trivial, by simp [Builtin.firstCells], fun h => absurd rfl h⟩
  · have hfl := flatten_len (n := t.size) hall.lens
    have hc' : ∀ j v, css.flatten[j]? = some v → E.w.cell? (a.add j) = some v := fun j v hv => by
      have hne : ys ≠ [] := by
        intro hn
        have hl0 := hall.length
        rw [hn] at hl0
        have hc0 : css = [] := List.length_eq_zero_iff.1 hl0.symm
        rw [hc0] at hv; simp at hv
      rw [addr_add' (hs hne)]; exact hc j v hv
    refine ⟨css, hall, run_firstCells_some E.w t.size _ a _ cap _ (by rw [hfl, hall.length]) hc', fun _ => ⟨a, cap, rfl, hc'⟩⟩
theorem All2.ones {w : World} {im : Nat → Prop} {t : Ty} {xs : List t.den} {css : List (List Value)} (h : All2 (Rd w im t) xs css) : ∀ c ∈ css.flatten, c.oneCell' = true := by
  intro c hc
  obtain ⟨d, hd, hcd⟩ := List.mem_flatten.1 hc
  obtain ⟨i, hi⟩ := List.getElem?_of_mem hd
  have hlt : i < xs.length := by rw [h.length]; exact (List.getElem?_eq_some_iff.1 hi).1
  obtain ⟨y, hy, hr⟩ := h.get i _ (List.getElem?_eq_getElem hlt)
  rw [hi] at hy; cases hy
  exact Rd.one _ _ _ hr c hcd
theorem Blw.drew' (w : World) (n : Nat) : Blw n w w.drew := .of ⟨rfl, rfl, rfl, Nat.le_refl _, fun _ _ => rfl⟩

/-- A row that has moved: its elements, with room behind them, in a new block. -/
theorem grown_ok (hm : MR C E m U) {nx : Nat} (hN : ¬ U nx) {t : Ty} {zs : List t.den} {css : List (List Value)} (hall : All2 (Rd E.w E.imm t) zs css) (hb : List.length zs * t.bytes ≤ top) {cap : Nat} {e : TypeId} {room : Array Value}
    (hcap : List.length zs ≤ cap) (hmax : cap ≤ maxLen) (hroom : room.size = (cap - List.length zs) * t.size) :
    ∃ E', E'.w = E.w.drew.alloc (.cells (css.flatten.toArray ++ room) e) ∧ Ext E E' ∧ MR C E' (m.put nx (.slab t zs)) (fun b => U b ∨ b = nx) ∧ Frm E m E' (m.put nx (.slab t zs)) ∧
      RV E' (.sl nx) (.slice (some ⟨E.w.heap.size, 0, none⟩) (List.length zs) cap) := by
  obtain ⟨hm1, hx1⟩ := hm.grow' (Blw.drew' E.w _)
  have hfl := flatten_len (n := t.size) hall.lens
  have hf1 : Frm E m { E with w := E.w.drew } m := ⟨fun _ _ _ => rfl, Nat.le_refl _, fun _ h => .inl h, fun _ h => .inl h⟩
  obtain ⟨E', g1, g2, g3, g4, g5⟩ := alloc_ok hm1 hN (.cells (css.flatten.toArray ++ room) e) (.slab E.w.heap.size t cap (List.length zs)) rfl (.slab t zs) (fun hx => by
    refine ⟨hb, .inr ⟨E.w.heap.size, cap, css.flatten.toArray ++ room, e, css, room.toList, by simp [Env.name], by show (E.w.heap.push _)[E.w.heap.size]? = _; rw [Array.getElem?_push, if_pos rfl], ?_, hcap, hmax, hall.mono fun _ _ hr => Rd.ext (hx1.trans hx) hr, by simp⟩⟩
    simp only [Array.size_append, List.size_toArray]
    rw [hfl, ← hall.length, hroom, ← Nat.add_mul]
    congr 1; omega)
  exact ⟨E', g1, hx1.trans g3, g4, hf1.trans g5, _, rfl, .inr ⟨E.w.heap.size, t, cap, List.length zs, g2, rfl⟩⟩
theorem nil_name (hm : MR C E m U) {nx : Nat} (hN : ¬ U nx) (t : Ty) : ∃ E', E'.w = E.w ∧ Ext E E' ∧ MR C E' (m.put nx (.slab t [])) (fun b => U b ∨ b = nx) ∧ Frm E m E' (m.put nx (.slab t [])) ∧ RV E' (.sl nx) (.slice none 0 0) := by
  obtain ⟨E', h1, h2, h3, h4, h5⟩ := nilrow_ok hm hN t
  exact ⟨E', h1, h3, h4, h5, _, rfl, .inl ⟨t, h2, rfl⟩⟩
end

section
variable {P : Program} {T : Tab} (hT : TabOK P T) {tid : Nat}
include hT
theorem append_nil_ok {C : Ctx} {E : Env} {m : Mem} {U : Nat → Prop} (hm : MR C E m U) {nx : Nat} (hN : ¬ U nx) {t : Ty} (he : T.get tid = some (.ty (.list t))) (hpos : 1 ≤ t.bytes) {ys : List t.den} (hb : List.length ys * t.bytes ≤ top) {z : Value} (hz : RowIs E t ys z) (ty : Nat) :
    ∃ r E', (Builtin.append_ #[tid, tid] ty #[.slice none 0 0, z]).run P E.w = .ok r E'.w ∧ Ext E E' ∧ MR C E' (m.put nx (.slab t ys)) (fun b => U b ∨ b = nx) ∧ Frm E m E' (m.put nx (.slab t ys)) ∧ RV E' (.sl nx) r := by
  obtain ⟨⟨eid, hu, heid⟩, _⟩ := hT tid _ he
  obtain ⟨_, ⟨ie, hie, hes, heb, hze⟩, _⟩ := hT eid _ heid
  obtain ⟨css, hall, hf, hne⟩ := hz.first (P := P)
  have hfl := flatten_len (n := t.size) hall.lens
  by_cases h0 : ys = []
  · subst h0
    have hcss : css = [] := List.length_eq_zero_iff.1 (by simpa using hall.length.symm)
    subst hcss
    obtain ⟨E', h1, h2, h3, h4, h5⟩ := nil_name hm hN t
    exact ⟨_, E', by rw [h1]; exact run_append_none E.w hu hie (hz.len E.w) (by rw [hes]; simpa using hf), h2, h3, h4, h5⟩
  · obtain ⟨a, cap, rfl, hcell⟩ := hne h0
    have hpl : 0 < List.length ys := List.length_pos_iff.2 h0
    have hle : List.length ys * 1 ≤ List.length ys * t.bytes := Nat.mul_le_mul_left _ hpos
    have htop : top = 140737488355328 := rfl
    have hrun := run_append_nil (P := P) E.w tid ty eid ie _ hu hie hze a (List.length ys) cap css.flatten (by rw [hfl, hes, hall.length]) hcell hpl (by omega) (by rw [heb]; omega)
    have hcs : (pk t.agg (zcells t)).cells.size = t.size := by
      have := (Rd.zero E.w (fun _ => False) t).cells
      rw [← Array.length_toList, this, zcells_len]
    have hge := grownCap_ge E.w (List.length ys) 0 eid
    have hmx := grownCap_le_maxLen E.w (List.length ys) 0 eid (by unfold maxLen; omega)
    obtain ⟨E', g1, g2, g3, g4, g5⟩ := grown_ok hm hN hall hb (e := eid) (room := Builtin.zeroCells (pk t.agg (zcells t)).cells (grownCap E.w (List.length ys) 0 eid - List.length ys)) hge hmx (by rw [size_zeroCells, hcs])
    exact ⟨_, E', by rw [g1]; exact hrun, g2, g3, g4, g5⟩
theorem appendK_ok {R : Type} {C : Ctx} {uid : Nat} {m : Mem} {nx : Nat} {s x : AV} {K : KO R} {y : R} (h : appendK T tid uid m nx s x K = some y) :
    ∃ m', K (.sl nx) m' (nx + 1) = some y ∧ ∀ E a z ty (U : Nat → Prop), RV E s a → RV E x z → MR C E m U → ¬ U nx →
      ∃ r E', (Builtin.append_ #[tid, uid] ty #[a, z]).run P E.w = .ok r E'.w ∧ Ext E E' ∧ MR C E' m' (fun b => U b ∨ b = nx) ∧ Frm E m E' m' ∧ RV E' (.sl nx) r := by
  unfold appendK at h
  split at h
  · rename_i t hid he
    have := Nat.eq_of_beq_eq_true hid; subst this
    split at h
    · rename_i ys hpos hrow
      obtain ⟨hg, h⟩ := guardK_some h
      refine ⟨_, h, fun E a z ty U ha hz hm hN => ?_⟩
      obtain ⟨cs, rfl, hc⟩ := ha
      have hc : cs = [.slice none 0 0] := hc
      subst hc
      exact append_nil_ok hT hm hN he (Nat.le_of_ble_eq_true hpos) (of_decide_eq_true hg) (rowOf_ok hm hrow hz) ty
    · rename_i b ys hpos hrow
      split at h
      · rename_i e0 xs0 hmb
        split at h
        · rename_i xs hc
          obtain ⟨e1, hx⟩ := cast?_some hc
          cases e1
          have hx : xs0 = xs := hx
          subst hx
          obtain ⟨hg, h⟩ := guardK_some h
          have hg := of_decide_eq_true hg
          refine ⟨_, h, fun E a z ty U ha hz hm hN => ?_⟩
          have hpos := Nat.le_of_ble_eq_true hpos
          have hrow := rowOf_ok hm hrow hz
          obtain ⟨css, hall, hf, hne⟩ := hrow.first (P := P)
          have hfl := flatten_len (n := t.size) hall.lens
          obtain ⟨⟨eid, hu, heid⟩, _⟩ := hT tid _ he
          obtain ⟨_, ⟨ie, hie, hes, heb, hze⟩, _⟩ := hT eid _ heid
          have hb := hm.blocks b
          rw [hmb] at hb
          obtain ⟨hbt, hb⟩ := hb
          obtain ⟨im, hk1, hk2, hk3, hk4⟩ := hm.kill1 b
          have hfrm : Frm E m { E with imm := im } (m.put b .dead) := Frm.kill (fun j hj => owns_put (by rw [hmb]; trivial) hj) hk4
          have hlz : List.length (List.append xs0 ys) = List.length xs0 + List.length ys := List.length_append
          have htop : top = 140737488355328 := rfl
          have hle : (List.length xs0 + List.length ys) * 1 ≤ (List.length xs0 + List.length ys) * t.bytes := Nat.mul_le_mul_left _ hpos
          rcases hb with ⟨hb, rfl⟩ | ⟨k, cap, cells, el, css0, rest, hb, hcell, hsz, hlen, hcap, hall0, hflat⟩
          · have hav : a = .slice none 0 0 := by
              obtain ⟨cs, rfl, hr⟩ := ha
              rcases hr with ⟨t', hb', rfl⟩ | ⟨k, t', cap, len, hb', rfl⟩
              · rfl
              · rw [hb] at hb'; cases hb'
            subst hav
            have hrow2 : RowIs { E with imm := im } t ys z := by
              rcases hrow with h | ⟨a, cap, css, h1, h2, h3, h4⟩
              · exact .inl h
              · exact .inr ⟨a, cap, css, h1, h2, h3.mono fun _ _ hr => Rd.ext hk2 hr, h4⟩
            obtain ⟨r, E', g1, g2, g3, g4, g5⟩ := append_nil_ok hT hk1 hN he hpos (by simpa using hg) hrow2 ty
            exact ⟨r, E', g1, hk2.trans g2, g3, hfrm.trans g4, g5⟩
          · have hav : a = .slice (some ⟨k, 0, none⟩) (List.length xs0) cap := by
              obtain ⟨cs, rfl, hr⟩ := ha
              rcases hr with ⟨t', hb', rfl⟩ | ⟨k, t', cap, len, hb', rfl⟩
              · rw [hb] at hb'; cases hb'
              · rw [hb] at hb'; cases hb'; rfl
            subst hav
            have hfl0 := flatten_len (n := t.size) hall0.lens
            by_cases hroom : List.length xs0 + List.length ys ≤ cap
            · have hle2 : (List.length xs0 + List.length ys) * t.size ≤ cap * t.size := Nat.mul_le_mul_right _ hroom
              have hlc : css.flatten.length = List.length ys * t.size := by rw [hfl, hall.length]
              have hl0 : css0.flatten.length = List.length xs0 * t.size := by rw [hfl0, hall0.length]
              have hrun := run_append_room' (P := P) E.w (ty := ty) hu hie hcell (sLen := List.length xs0) (sCap := cap) (z := z) (m := List.length ys) (news := css.flatten) (by rw [hlc, hes]) (hrow.len E.w) (by rw [hes]; exact hf) hall.ones hroom
                (by rw [hes, hlc, hsz, ← Nat.add_mul]; exact hle2)
              rw [hes] at hrun
              obtain ⟨E', g1, g2, g3, g4, g5⟩ := reslab_ok hm (nx := nx) (len' := List.length xs0 + List.length ys) hN (by rw [hmb]; trivial) hb (w' := E.w.setRow k (cells.toList.take (List.length xs0 * t.size) ++ css.flatten ++ cells.toList.drop (List.length xs0 * t.size + css.flatten.length)).toArray)
                rfl rfl rfl (by simp) (fun j hj => setRow_other E.w k j _ hj) (.slab t (List.append xs0 ys)) (fun hx => by
                  refine ⟨by rw [hlz]; exact hg, .inr ⟨k, cap, _, el, css0 ++ css, cells.toList.drop (List.length xs0 * t.size + css.flatten.length), by simp [Env.name], setRow_heap E.w _ cells _ el _ hcell, ?_, by rw [hlz]; exact hroom, hcap,
                    (hall0.append hall).mono fun _ _ hr => Rd.ext hx hr, ?_⟩⟩
                  · simp only [List.size_toArray, List.length_append, List.length_take, List.length_drop, Array.length_toList, hsz, hlc]
                    rw [Nat.add_mul] at hle2
                    omega
                  · rw [hflat, ← hl0, List.take_left]
                    simp)
              refine ⟨_, E', by rw [g1]; exact hrun, g3, g4, g5, _, rfl, .inr ⟨k, t, cap, _, g2, rfl⟩⟩
            · have hys : ys ≠ [] := by rintro rfl; simp at hroom; omega
              obtain ⟨a, cap2, rfl, hcells⟩ := hne hys
              have holds : ∀ j v, css0.flatten[j]? = some v → E.w.cell? ((⟨k, 0, none⟩ : Addr).add j) = some v := by
                intro j v hv
                rw [addr_add]
                have : cells[j]? = some v := by
                  rw [← Array.getElem?_toList, hflat, List.getElem?_append_left (List.getElem?_eq_some_iff.1 hv).1]
                  exact hv
                simp [World.cell?, hcell, this]
              have hrun := run_append_grow (P := P) E.w tid ty eid ie _ hu hie hze ⟨k, 0, none⟩ (List.length xs0) cap css0.flatten (by rw [hfl0, hes, hall0.length]) holds a (List.length ys) cap2 css.flatten (by rw [hfl, hes, hall.length]) hcells
                (by omega) (by omega) (by rw [heb]; exact growslice_fits (by omega) hg)
              have hcs : (pk t.agg (zcells t)).cells.size = t.size := by
                have := (Rd.zero E.w (fun _ => False) t).cells
                rw [← Array.length_toList, this, zcells_len]
              have hge := grownCap_ge E.w (List.length xs0 + List.length ys) cap eid
              have hmx := grownCap_le_maxLen E.w (List.length xs0 + List.length ys) cap eid (by unfold maxLen; omega)
              obtain ⟨E', g1, g2, g3, g4, g5⟩ := grown_ok hk1 hN (zs := List.append xs0 ys) (css := css0 ++ css) ((hall0.append hall).mono fun _ _ hr => Rd.ext hk2 hr) (by rw [hlz]; exact hg) (e := eid)
                (room := Builtin.zeroCells (pk t.agg (zcells t)).cells (grownCap E.w (List.length xs0 + List.length ys) cap eid - (List.length xs0 + List.length ys))) (by rw [hlz]; exact hge) hmx (by rw [size_zeroCells, hcs, hlz])
              refine ⟨_, E', ?_, hk2.trans g2, g3, hfrm.trans g4, g5⟩
              rw [g1, hrun, hlz]
              simp
        · cases h
      · cases h
    · cases h
  · cases h
end
end Go.Co
end

section
namespace Go.Co

/-! ### Rounds -/
def iter {X Z : Type} (f : X → Option (X ⊕ Z)) : Nat → X → Option Z
  | 0, _ => none
  | n + 1, x => match f x with
    | some (.inl x') => iter f n x'
    | some (.inr z) => some z
    | none => none
open Classical in
/-- What the rounds come to, if they come to an end. -/
noncomputable def lfp {X Z : Type} (f : X → Option (X ⊕ Z)) (x : X) : Option Z :=
  if h : ∃ n z, iter f n x = some z then some h.choose_spec.choose else none
theorem iter_more {X Z : Type} {f : X → Option (X ⊕ Z)} : ∀ {n m : Nat} {x : X} {z : Z}, iter f n x = some z → n ≤ m → iter f m x = some z
  | 0, _, _, _, h, _ => by simp [iter] at h
  | n + 1, 0, _, _, _, hle => by omega
  | n + 1, m + 1, x, z, h, hle => by
    simp only [iter] at h ⊢
    split at h
    · exact iter_more h (by omega)
    · exact h
    · cases h
theorem lfp_some {X Z : Type} {f : X → Option (X ⊕ Z)} {x : X} {z : Z} : lfp f x = some z ↔ ∃ n, iter f n x = some z := by
  unfold lfp
  constructor
  · intro h
    split at h
    · rename_i hx
      cases h
      exact ⟨_, hx.choose_spec.choose_spec⟩
    · cases h
  · rintro ⟨n, h⟩
    have hx : ∃ n z, iter f n x = some z := ⟨n, z, h⟩
    rw [dif_pos hx]
    have h1 := hx.choose_spec.choose_spec
    have h2 := iter_more h1 (Nat.le_max_left hx.choose n)
    have h3 := iter_more h (Nat.le_max_right hx.choose n)
    rw [h2] at h3; exact h3

theorem lfp_inl {X Z : Type} {f : X → Option (X ⊕ Z)} {x x' : X} (h : f x = some (.inl x')) : lfp f x = lfp f x' := by
  have key : ∀ z, lfp f x = some z ↔ lfp f x' = some z := by
    intro z
    rw [lfp_some, lfp_some]
    constructor
    · rintro ⟨n, hn⟩
      cases n with
      | zero => simp [iter] at hn
      | succ n => simp only [iter, h] at hn; exact ⟨n, hn⟩
    · rintro ⟨n, hn⟩
      exact ⟨n + 1, by simp only [iter, h]; exact hn⟩
  cases h1 : lfp f x with
  | some z => exact ((key z).1 h1).symm
  | none =>
    cases h2 : lfp f x' with
    | none => rfl
    | some z => rw [(key z).2 h2] at h1; cases h1
theorem lfp_inr {X Z : Type} {f : X → Option (X ⊕ Z)} {x : X} {z : Z} (h : f x = some (.inr z)) : lfp f x = some z := lfp_some.2 ⟨1, by simp only [iter, h]⟩

/-! ### Shapes of values: fixed parts and holes -/
inductive Sh where
  | junk
  | hole (t : Ty)
  /-- a row of its own -/
  | row (t : Ty)
  | eptr (t : Ty)
  | nils
  | ptr (b : Nat) (p : List PS)
  | mp (b : Nat)
  | asl (b : Nat) (p : List PS)
  /-- the row b, which stays where it is; a part of it -/
  | slf (b : Nat)
  | ssl (b : Nat)
  | fn (f : Nat) (caps : List Nat)
  | nilp
  /-- a map of its own -/
  | omp (k v : Ty)
  | agv (s : St) (l : Sh)
  | nil
  | cons (a l : Sh)
abbrev Sh.den : Sh → Type
  | .hole t => t.den
  | .row t => List t.den
  | .eptr t => t.den
  | .ssl _ => Int
  | .omp k v => List (k.den × v.den)
  | .agv _ l => l.den
  | .cons a l => a.den × l.den
  | _ => Unit
def rowsIn : Sh → Nat
  | .row _ => 1
  | .omp _ _ => 1
  | .agv _ l => rowsIn l
  | .cons a l => rowsIn a + rowsIn l
  | _ => 0
/-- The value; its rows' names are k and those behind it. -/
def mkAV : (sh : Sh) → Nat → sh.den → AV
  | .junk, _, _ => .junk
  | .hole t, _, x => .val t x
  | .row _, k, _ => .sl k
  | .eptr t, _, x => .eptr t x
  | .nils, _, _ => .nils
  | .ptr b p, _, _ => .ptr b p
  | .mp b, _, _ => .mp b
  | .asl b p, _, _ => .asl b p
  | .slf b, _, _ => .sl b
  | .ssl b, _, x => .ssl b 0 x
  | .fn f c, _, _ => .fn f c
  | .nilp, _, _ => .nilp
  | .omp _ _, k, _ => .mp k
  | .agv s l, k, x => .agv s (mkAV l k x)
  | .nil, _, _ => .nil
  | .cons a l, k, x => .cons (mkAV a k x.1) (mkAV l (k + rowsIn a) x.2)
def rowsX : (sh : Sh) → sh.den → List AB
  | .row t, x => [.slab t x]
  | .omp k v, x => [.map k v x]
  | .agv _ l, x => rowsX l x
  | .cons a l, x => catL (rowsX a x.1) (rowsX l x.2)
  | _, _ => []
def eqPS : PS → PS → Bool
  | .fld i, .fld j => Nat.beq i j
  | .idx i, .idx j => decide (i = j)
  | _, _ => false
def eqP : List PS → List PS → Bool
  | [], [] => true
  | a :: r, b :: s => eqPS a b && eqP r s
  | _, _ => false
def eqL : List Nat → List Nat → Bool
  | [], [] => true
  | a :: r, b :: s => Nat.beq a b && eqL r s
  | _, _ => false
/-- No row in it that is written. -/
def rowFree (m : Mem) : AV → Bool
  | .sl b => match m b with | .frz _ _ => true | _ => false
  | .ssl b _ _ => match m b with | .frz _ _ => true | _ => false
  | .asl _ _ => false
  | .agv _ l => rowFree m l
  | .cons a l => rowFree m a && rowFree m l
  | _ => true
def plainTy : Ty → Bool
  | .unit | .prod _ _ => false
  | _ => true
/-- The holes' data, out of a value of the shape. -/
def rdAV : (sh : Sh) → Mem → AV → Option sh.den
  | .junk, _, _ => some ()
  | .hole t, m, v => match plainTy t, rowFree m v with
    | true, true => toPure m v t
    | _, _ => none
  | .row t, m, v => match v with
    | .nils => some []
    | .sl b => match m b with
      | .slab e xs => cast? (.list e) (.list t) xs
      | _ => none
    | _ => none
  | .eptr t, _, v => match v with
    | .eptr u x => cast? u t x
    | _ => none
  | .nils, _, v => match v with | .nils => some () | _ => none
  | .ptr b p, _, v => match v with
    | .ptr b' p' => match Nat.beq b b', eqP p p' with | true, true => some () | _, _ => none
    | _ => none
  | .mp b, _, v => match v with
    | .mp b' => match Nat.beq b b' with | true => some () | false => none
    | _ => none
  | .asl b p, _, v => match v with
    | .asl b' p' => match Nat.beq b b', eqP p p' with | true, true => some () | _, _ => none
    | _ => none
  | .slf b, _, v => match v with
    | .sl b' => match Nat.beq b b' with | true => some () | false => none
    | _ => none
  | .ssl b, _, v => match v with
    | .ssl b' lo hi => match Nat.beq b b', lo with | true, .ofNat 0 => some hi | _, _ => none
    | _ => none
  | .fn f c, _, v => match v with
    | .fn f' c' => match Nat.beq f f', eqL c c' with | true, true => some () | _, _ => none
    | _ => none
  | .nilp, _, v => match v with | .nilp => some () | _ => none
  | .omp k w, m, v => match v with
    | .mp b => match m b with
      | .map k' w' l => cast? (.list (.prod k' w')) (.list (.prod k w)) l
      | _ => none
    | _ => none
  | .agv s l, m, v => match v with
    | .agv s' l' => match Nat.beq s.no s'.no with | true => rdAV l m l' | false => none
    | _ => none
  | .nil, _, v => match v with | .nil => some () | _ => none
  | .cons a l, m, v => match v with
    | .cons b r => match rdAV a m b, rdAV l m r with | some x, some y => some (x, y) | _, _ => none
    | _ => none
/-- The rows that lie in the places of a shape's. -/
def rdRows : Sh → AV → List (Ty × Option Nat)
  | .row t, v => match v with
    | .sl b => [(t, some b)]
    | _ => [(t, none)]
  | .omp _ _, v => match v with
    | .mp b => [(.unit, some b)]
    | _ => [(.unit, none)]
  | .agv _ l, v => match v with
    | .agv _ l' => rdRows l l'
    | _ => []
  | .cons a l, v => match v with
    | .cons b r => catL (rdRows a b) (rdRows l r)
    | _ => []
  | _, _ => []
def shBelow (n : Nat) : Sh → Bool
  | .ptr b _ => Nat.blt b n
  | .mp b => Nat.blt b n
  | .asl b _ => Nat.blt b n
  | .slf b => Nat.blt b n
  | .ssl b => Nat.blt b n
  | .fn _ c => c.all (Nat.blt · n)
  | .agv _ l => shBelow n l
  | .cons a l => shBelow n a && shBelow n l
  | .junk => false
  | _ => true

/-! ### What a state holds -/
structure SD where
  /-- slots -/
  sl : List (Nat × Sh)
  /-- variables -/
  vr : List (Nat × Ty × Sh)
  /-- maps; rows that stay where they are (told by .unit) -/
  mp : List (Nat × Ty × Ty)
abbrev denSl : List (Nat × Sh) → Type
  | [] => Unit
  | (_, sh) :: r => sh.den × denSl r
abbrev denVr : List (Nat × Ty × Sh) → Type
  | [] => Unit
  | (_, _, sh) :: r => sh.den × denVr r
abbrev denM : Ty → Ty → Type
  | .unit, v => List v.den
  | k, v => List (k.den × v.den)
abbrev denMp : List (Nat × Ty × Ty) → Type
  | [] => Unit
  | (_, k, v) :: r => denM k v × denMp r
abbrev SD.den (D : SD) : Type := denSl D.sl × denVr D.vr × denMp D.mp
def rowsSl : List (Nat × Sh) → Nat
  | [] => 0
  | (_, sh) :: r => rowsIn sh + rowsSl r
def rowsVr : List (Nat × Ty × Sh) → Nat
  | [] => 0
  | (_, _, sh) :: r => rowsIn sh + rowsVr r
def mkSl : (l : List (Nat × Sh)) → Nat → denSl l → Nat → AV
  | [], _, _, _ => .junk
  | (i, sh) :: r, k, x, j => match Nat.beq j i with | true => mkAV sh k x.1 | false => mkSl r (k + rowsIn sh) x.2 j
def mkVr : (l : List (Nat × Ty × Sh)) → Nat → denVr l → Nat → AB
  | [], _, _, _ => .none
  | (i, t, sh) :: r, k, x, j => match Nat.beq j i with | true => .var t (mkAV sh k x.1) | false => mkVr r (k + rowsIn sh) x.2 j
def mkM : (k v : Ty) → denM k v → AB
  | .unit, v, x => .slab v x
  | .int k, v, x => .map (.int k) v x
  | .bool, v, x => .map .bool v x
  | .str, v, x => .map .str v x
  | _, _, _ => .none
def mkMp : (l : List (Nat × Ty × Ty)) → denMp l → Nat → AB
  | [], _, _ => .none
  | (i, k, v) :: r, x, j => match Nat.beq j i with | true => mkM k v x.1 | false => mkMp r x.2 j
def rowsSlX : (l : List (Nat × Sh)) → denSl l → List AB
  | [], _ => []
  | (_, sh) :: r, x => catL (rowsX sh x.1) (rowsSlX r x.2)
def rowsVrX : (l : List (Nat × Ty × Sh)) → denVr l → List AB
  | [], _ => []
  | (_, _, sh) :: r, x => catL (rowsX sh x.1) (rowsVrX r x.2)
def mkMem (D : SD) (base : Nat) (x : D.den) (b : Nat) : AB :=
  match Nat.ble base b with
  | true => nthB (catL (rowsSlX D.sl x.1) (rowsVrX D.vr x.2.1)) (b - base)
  | false => match mkVr D.vr (base + rowsSl D.sl) x.2.1 b with
    | .none => mkMp D.mp x.2.2 b
    | y => y
def SD.rows (D : SD) : Nat := rowsSl D.sl + rowsVr D.vr
def mkD (D : SD) (base nx : Nat) (x : D.den) : AS := ⟨mkSl D.sl base x.1, mkMem D base x, nx⟩
def rdSl : (l : List (Nat × Sh)) → AS → Option (denSl l)
  | [], _ => some ()
  | (i, sh) :: r, s => match rdAV sh s.mem (s.slots i), rdSl r s with | some x, some y => some (x, y) | _, _ => none
def rdVr : (l : List (Nat × Ty × Sh)) → Nat → AS → Option (denVr l)
  | [], _, _ => some ()
  | (b, t, sh) :: r, k, s => match s.mem b with
    | .var u v => match Ty.eqb u t, rdAV sh s.mem v with
      | true, some x => match (mkAV sh k x).has t, rdVr r (k + rowsIn sh) s with | true, some y => some (x, y) | _, _ => none
      | _, _ => none
    | _ => none
def castM (k v k' v' : Ty) (l : List (k.den × v.den)) : Option (List (k'.den × v'.den)) := cast? (.list (.prod k v)) (.list (.prod k' v')) l
def rdM : (k v : Ty) → AB → Option (denM k v)
  | .unit, v, y => match y with | .slab t xs => cast? (.list t) (.list v) xs | _ => none
  | .int k, v, y => match y with | .map k' v' l => castM k' v' (.int k) v l | _ => none
  | .bool, v, y => match y with | .map k' v' l => castM k' v' .bool v l | _ => none
  | .str, v, y => match y with | .map k' v' l => castM k' v' .str v l | _ => none
  | _, _, _ => none
def rdMp : (l : List (Nat × Ty × Ty)) → AS → Option (denMp l)
  | [], _ => some ()
  | (b, k, v) :: r, s => match rdM k v (s.mem b), rdMp r s with | some x, some y => some (x, y) | _, _ => none
def rdRowsSl : List (Nat × Sh) → AS → List (Ty × Option Nat)
  | [], _ => []
  | (i, sh) :: r, s => catL (rdRows sh (s.slots i)) (rdRowsSl r s)
def rdRowsVr : List (Nat × Ty × Sh) → AS → List (Ty × Option Nat)
  | [], _ => []
  | (b, _, sh) :: r, s => catL (match s.mem b with | .var _ v => rdRows sh v | _ => []) (rdRowsVr r s)
def inNames : List (Ty × Option Nat) → Nat → Bool
  | [], _ => false
  | (_, some a) :: r, b => Nat.beq a b || inNames r b
  | (_, none) :: r, b => inNames r b
def nodupN : List (Ty × Option Nat) → Bool
  | [] => true
  | (_, some a) :: r => !inNames r a && nodupN r
  | (_, none) :: r => nodupN r
/-- The rows and maps that stay where they are. -/
def fixRows : List (Nat × Ty × Ty) → List (Ty × Option Nat)
  | [] => []
  | (b, _, v) :: r => (v, some b) :: fixRows r
def belowSD (n : Nat) (D : SD) : Bool := D.sl.all (fun e => shBelow n e.2) && D.vr.all (fun e => Nat.blt e.1 n && shBelow n e.2.2) && D.mp.all (fun e => Nat.blt e.1 n)
/-- The holes' data, out of a state. -/
def rdD (D : SD) (base : Nat) (s : AS) : Option D.den :=
  match belowSD base D && nodupN (catL (catL (rdRowsSl D.sl s) (rdRowsVr D.vr s)) (fixRows D.mp)), rdSl D.sl s, rdVr D.vr (base + rowsSl D.sl) s, rdMp D.mp s with
  | true, some x, some y, some z => some (x, y, z)
  | _, _, _, _ => none

/-! ### Rows that nobody writes from now on -/
/-- Where the place is for plain data the rows are let go. -/
def frzM : Sh → AV → Mem → Mem
  | .hole _, v, m => kill v m
  | .agv _ l, v, m => match v with | .agv _ l' => frzM l l' m | _ => m
  | .cons a l, v, m => match v with | .cons b r => frzM l r (frzM a b m) | _ => m
  | _, _, m => m
def frzSl : List (Nat × Sh) → (Nat → AV) → Mem → Mem
  | [], _, m => m
  | (i, sh) :: r, f, m => frzSl r f (frzM sh (f i) m)
def frzVr : List (Nat × Ty × Sh) → Mem → Mem
  | [], m => m
  | (b, _, sh) :: r, m => frzVr r (match m b with | .var _ v => frzM sh v m | _ => m)
def frzD (D : SD) (s : AS) : AS := ⟨s.slots, frzVr D.vr (frzSl D.sl s.slots s.mem), s.nx⟩
/-- The holes' data out of a state whose rows are let go where the holes are plain. -/
def rdF (D : SD) (base : Nat) (s : AS) : Option D.den := rdD D base (frzD D s)

/-! ### Ways out of a loop -/
inductive XK where
  | ret
  | exit (id : Nat)
def XK.is : XK → AExit → Bool
  | .ret, .ret => true
  | .exit i, .exit j => Nat.beq i j
  | _, _ => false
def XK.to : XK → AExit
  | .ret => .ret
  | .exit i => .exit i
abbrev denE : List (XK × SD) → Type
  | [] => Empty
  | [(_, D)] => D.den
  | (_, D) :: e :: r => D.den ⊕ denE (e :: r)
def rdE : (l : List (XK × SD)) → Nat → AExit → AS → Option (denE l)
  | [], _, _, _ => none
  | [(k, D)], base, e, s => match k.is e with | true => rdF D base s | false => none
  | (k, D) :: e' :: r, base, e, s => match (match k.is e with | true => rdF D base s | false => none) with
    | some x => some (.inl x)
    | none => match rdE (e' :: r) base e s with
      | some z => some (.inr z)
      | none => none
def contE {R : Type} : (l : List (XK × SD)) → Nat → Nat → denE l → (AExit → AS → Option R) → Option R
  | [], _, _, _, _ => none
  | [(k, D)], base, nx, x, K => K k.to (mkD D base nx x)
  | (k, D) :: e :: r, base, nx, x, K => Sum.elim (fun x => K k.to (mkD D base nx x)) (fun z => contE (e :: r) base nx z K) x
structure LD where
  hd : SD
  outs : List (XK × SD)
  /-- names for a round's own -/
  room : Nat
  /-- names that the loop doesn't touch -/
  fr : List Nat
def ldOf : List (Nat × LD) → Nat → Option LD
  | [], _ => none
  | (i, d) :: r, n => match Nat.beq n i with | true => some d | false => ldOf r n
def roundK (d : LD) (base : Nat) (e : AExit) (s : AS) : Option (d.hd.den ⊕ denE d.outs) :=
  match Nat.ble s.nx (base + d.room) with
  | false => none
  | true => match e with
    | .normal => match rdF d.hd base s with
      | some x => some (.inl x)
      | none => none
    | e => match rdE d.outs base e s with
      | some z => some (.inr z)
      | none => none
def roomy (d : LD) : Bool := Nat.ble d.hd.rows d.room && d.outs.all fun e => Nat.ble e.2.rows d.room
/-- The names that a loop doesn't touch: those of the list; or, behind the mark 1000000, all but those of the list. -/
def kept : List Nat → Nat → Nat → Bool
  | [], _, _ => false
  | a :: l, nx, b => match Nat.beq a 1000000 with
    | true => (match Nat.blt b nx with | true => (match memB l b with | true => false | false => true) | false => false)
    | false => memB (a :: l) b
/-- Without what the loop doesn't touch. -/
def dropS (p : Nat → Bool) (s : AS) : AS := ⟨s.slots, fun b => match p b with | true => .none | false => s.mem b, s.nx⟩
/-- With it again. -/
def keepS (p : Nat → Bool) (m : Mem) (s : AS) : AS := ⟨s.slots, fun b => match p b with | true => m b | false => s.mem b, s.nx⟩
/-- The head's data. -/
def rdH (d : LD) (s : AS) : Option d.hd.den := rdD d.hd s.nx (dropS (kept d.fr s.nx) (frzD d.hd s))
/-- A loop of which a line of the list tells. -/
noncomputable def lpH (L : List (Nat × LD)) (id : Nat) (ev : (R : Type) → AS → (AExit → AS → Option R) → Option R) (R : Type) (s : AS) (K : AExit → AS → Option R) : Option R :=
  match ldOf L id with
  | none => none
  | some d => match roomy d, rdH d s with
    | true, some x => (lfp (fun x => ev (d.hd.den ⊕ denE d.outs) (mkD d.hd s.nx (s.nx + d.hd.rows) x) (roundK d s.nx)) x).bind fun z => contE d.outs s.nx (s.nx + d.room) z fun r s' => K r (keepS (kept d.fr s.nx) (frzD d.hd s).mem s')
    | _, _ => none

/-! ### Functions gone into, told as one -/
/-- A function that is called: named, so that its text stands once. -/
def once {X Z : Type} (f : X → Option Z) (x : X) : Option Z := f x
def exitK (d : LD) (base : Nat) (e : AExit) (s : AS) : Option (denE d.outs) :=
  match Nat.ble s.nx (base + d.room) with
  | false => none
  | true => rdE d.outs base e s
def onceH (d : LD) (ev : (R : Type) → AS → (AExit → AS → Option R) → Option R) (R : Type) (s : AS) (K : AExit → AS → Option R) : Option R :=
  match roomy d, rdH d s with
  | true, some x => (once (fun x => ev (denE d.outs) (mkD d.hd s.nx (s.nx + d.hd.rows) x) (exitK d s.nx)) x).bind fun z => contE d.outs s.nx (s.nx + d.room) z fun r s' => K r (keepS (kept d.fr s.nx) (frzD d.hd s).mem s')
  | _, _ => none
/-- The first line that fits; else as it stands. -/
def onceM : List (Nat × LD) → ((R : Type) → AS → (AExit → AS → Option R) → Option R) → (R : Type) → AS → (AExit → AS → Option R) → Option R
  | [], ev, R, s, K => ev R s K
  | (i, d) :: r, ev, R, s, K => match Nat.beq i 1000000 with
    | false => onceM r ev R s K
    | true => match rdH d s with
      | some _ => onceH d ev R s K
      | none => onceM r ev R s K
def inlJ (L : List (Nat × LD)) (E : EE) (B : Bodies) (R : Type) (f : Nat) (vs : List AV) (m : Mem) (nx : Nat) (K : KO R) : Option R :=
  match bodyOf B f with
  | Option.none => Option.none
  | some (n, rs, body) => match Nat.ble vs.length n with
    | false => Option.none
    | true => onceM L (fun R s K => evC E n body R s K) R (initS vs m nx) fun e s => match e with
      | .exit _ => Option.none
      | _ => match resList E.T s rs with
        | some l => match resPack l with
          | some v => K v s.mem s.nx
          | Option.none => Option.none
        | Option.none => Option.none
end Go.Co
end

section
namespace Go.Co
open Go.RowKit

/-! ### Functions with a known answer -/
def argsRd (w : World) (im : Nat → Prop) : (l : List Ty) → denL l → List Value → Prop
  | [], _, [] => True
  | t :: r, x, v :: vs => (∃ cs, v = pk t.agg cs ∧ Rd w im t x.1 cs) ∧ argsRd w im r x.2 vs
  | _, _, _ => False
/-- A function that can be called by its number. -/
def FnOK (P : Program) (f : Nat) : Prop := ∃ fn, P.funcs[f]? = some fn ∧ (fn.name == "runtime.NumGoroutine") = false ∧ fn.body.isNone = false
/-- The answer: c's. Nothing of old is written. -/
structure ConOK (P : Program) (f : Nat) (c : Con) : Prop where
  fn : FnOK P f
  args : ∀ t ∈ c.args, plainTy t = true
  run : ∀ (w : World) (I : Nat → Prop) x xs y, GOK P w → (∀ k, I k → k < w.heap.size) → argsRd w I c.args x xs → c.fn x = some y →
    Calls P f xs.toArray w fun e w' => ∃ z, e = .returned z ∧ Blw w.heap.size w w' ∧ RV ⟨fun _ => none, w', fun k => k < w'.heap.size ∧ (k < w.heap.size → I k)⟩ (resAV c.res y) z

section
variable {C : Ctx} {E : Env} {m : Mem} {U : Nat → Prop}
theorem MR.widen {U' : Nat → Prop} (h : MR C E m U) (hu : ∀ b, U b → U' b) : MR C E m U' := ⟨h.below, h.blocks, h.own, h.inj, h.immLt, h.immI, fun b bt hb => hu b (h.nx b bt hb)⟩

theorem toPureL_ok (hm : MR C E m U) {im : Nat → Prop} (h1 : ∀ k, E.imm k → im k) : ∀ (l : List Ty) (vs : List AV) (xs : List Value) (x : denL l), (∀ t ∈ l, plainTy t = true) → toPureL m l vs = some x → All2 (RV E) vs xs →
    (∀ v ∈ vs, ∀ b bt k, rowsOf v b → live (m b) → E.ρ b = some bt → bt.base = some k → im k) → argsRd E.w im l x xs
  | [], [], [], _, _, _, _, _ => trivial
  | [], _ :: _, _, _, _, h, _, _ => by simp [toPureL] at h
  | [], [], _ :: _, _, _, _, h, _ => h.elim
  | _ :: _, [], _, _, _, h, _, _ => by simp [toPureL] at h
  | _ :: _, _ :: _, [], _, _, _, h, _ => h.elim
  | t :: r, v :: vs, z :: zs, x, ht, h, hz, hk => by
    simp only [toPureL] at h
    split at h
    · rename_i p q hp hq
      cases h
      have hpt := ht t (by simp)
      obtain ⟨c, rfl, hc⟩ := hz.1.cells (by rintro rfl; simp [toPure] at hp) (by rintro l rfl; simp [toPure] at hp)
      have hvn : v ≠ .nil := by rintro rfl; cases t <;> simp [toPure] at hp; simp [plainTy] at hpt
      have hvc : ∀ a l, v ≠ .cons a l := by rintro a l rfl; cases t <;> simp [toPure] at hp; simp [plainTy] at hpt
      refine ⟨⟨c, by rw [toPure_agg hp hvn hvc], toPure_RC hm h1 v t p c hp hc (hk v (by simp))⟩, toPureL_ok hm h1 r vs zs q (fun t h => ht t (by simp [h])) hq hz.2 fun v hv => hk v (by simp [hv])⟩
    · cases h

theorem RVs_resVs_nolist {E E' : Env} : ∀ (l : List Ty) (y : denL l) (zs : List Value), l.any Ty.lists = false → RVs E (resVs l y) zs → RVs E' (resVs l y) zs
  | [], _, _, _, h => h
  | t :: r, y, zs, hl, h => by
    simp at hl
    obtain ⟨cs, zs', rfl, h1, h2⟩ := h
    exact ⟨cs, zs', rfl, Rd.nolist _ _ _ hl.1 h1, RVs_resVs_nolist r y.2 zs' (by simpa using hl.2) h2⟩
theorem RV_res_nolist {E E' : Env} : ∀ (l : List Ty) (y : denL l) (z : Value), l.any Ty.lists = false → RV E (resAV l y) z → RV E' (resAV l y) z
  | [t], y, z, hl, h => by
    obtain ⟨cs, rfl, h⟩ := h
    exact ⟨cs, rfl, Rd.nolist _ _ _ (by simpa using hl) h⟩
  | [], y, z, hl, ⟨zs, h1, h2⟩ => ⟨zs, h1, h2⟩
  | t :: u :: r, y, z, hl, h => by
    obtain ⟨zs, rfl, h⟩ := h
    exact ⟨zs, rfl, RVs_resVs_nolist (t :: u :: r) y zs hl h⟩
end

/-! ### An operation's run -/
/-- What a run of an operation comes to. -/
def OpRun (P : Program) (o : Oper) (σ : Operand → Value) (w : World) (R : Value → World → Prop) : Prop :=
  match (execOp σ o).run P w with
  | .ok (.value v) w' => R v w'
  | .ok .skip w' => R undef w'
  | .ok (.enter f args) w' => Calls P f args w' fun e w'' => ∃ z, e = .returned z ∧ R z w''
  | _ => False
theorem OpRun.mono {P : Program} {o : Oper} {σ : Operand → Value} {w : World} {R R' : Value → World → Prop} (h : OpRun P o σ w R) (hr : ∀ v w', R v w' → R' v w') : OpRun P o σ w R' := by
  unfold OpRun at *
  generalize (execOp σ o).run P w = r at *
  cases r with
  | ok n w' =>
    cases n <;> first
      | exact h.elim
      | exact hr _ _ h
      | exact Calls.mono h (fun e w'' ⟨z, he, hz⟩ => ⟨z, he, hr _ _ hz⟩)
  | halt => exact h
theorem OpRun.wp {P : Program} {o : Oper} {a : Act} {w : World} {next : Act → World → Prop} {Q : Exit → Act → World → Prop} (h : OpRun P o a.eval w fun v w' => next (a.put o.dst v) w') : o.wp P a w next Q := by
  unfold Oper.wp
  unfold OpRun at h
  generalize (execOp a.eval o).run P w = r at *
  cases r with
  | ok n w' =>
    cases n <;> simp only [Oper.upon] <;> first
      | exact h.elim
      | exact h
      | exact Calls.mono h (fun e w'' ⟨z, he, hz⟩ => by subst he; exact hz)
  | halt => exact h.elim
/-- What holds behind it. -/
def Res (C : Ctx) (E : Env) (m : Mem) (U : Nat → Prop) (lo hi : Nat) (v : AV) (m' : Mem) (z : Value) (w' : World) : Prop :=
  ∃ E', E'.w = w' ∧ Ext E E' ∧ MR C E' m' (fun b => U b ∨ (lo ≤ b ∧ b < hi)) ∧ Frm E m E' m' ∧ RV E' v z
theorem Res.same {C : Ctx} {E : Env} {m : Mem} {U : Nat → Prop} {lo : Nat} {v : AV} {z : Value} (hm : MR C E m U) (hv : RV E v z) : Res C E m U lo lo v m z E.w :=
  ⟨E, rfl, Ext.refl _, hm.widen fun _ h => .inl h, Frm.refl _ _, hv⟩

/-- The handler of calls that are gone into. -/
def InlOK (P : Program) (C : Ctx) (inl : (R : Type) → Nat → List AV → Mem → Nat → KO R → Option R) : Prop :=
  ∀ R f vs m nx K y, inl R f vs m nx K = some y → FnOK P f ∧ ∃ v m' nx', nx ≤ nx' ∧ K v m' nx' = some y ∧
    ∀ (E : Env) (xs : List Value) (U : Nat → Prop), All2 (RV E) vs xs → MR C E m U → (∀ b, nx ≤ b → b < nx' → ¬ U b) → Calls P f xs.toArray E.w fun e w' => ∃ z, e = .returned z ∧ Res C E m U nx nx' v m' z w'
/-- Kinds of answers without slices in their slices. -/
def frOKF : Ty → Bool
  | .list t => !t.lists
  | t => !t.lists && plainTy t
def frOKB : Ty → Bool
  | .prod a b => frOKF a && frOKB b
  | .unit => true
  | _ => false
def frOK : Ty → Bool
  | .st s => match (Ty.st s).lists with | true => frOKB s.body | false => true
  | t => frOKF t
/-- The answer: c's, its slices new memory. Nothing of old is written. -/
structure FConOK (P : Program) (f : Nat) (c : Con) : Prop where
  fn : FnOK P f
  args : ∀ t ∈ c.args, plainTy t = true
  res : ∀ t ∈ c.res, frOK t = true
  run : ∀ (w : World) (I : Nat → Prop) (hg : GOK P w) x xs y, (∀ k, I k → k < w.heap.size) → argsRd w I c.args x xs → c.fn x = some y →
    Calls P f xs.toArray w fun e w' => ∃ z, e = .returned z ∧ ∃ (E' : Env) (base : Nat) (m' : Mem) (U' : Nat → Prop), E'.w = w' ∧ MR ⟨P, w, I, hg⟩ E' m' U' ∧
      (∀ i, i < frNL c.res → m' (base + i) = nthB (frRL c.res y) i) ∧ RV E' (frAV c.res y base) z
structure EOK (P : Program) (C : Ctx) (E : EE) : Prop where
  tab : TabOK P E.T
  con : ∀ f c, conOf E.con f = some c → inL E.fr f = false → ConOK P f c
  fcon : ∀ f c, conOf E.con f = some c → inL E.fr f = true → FConOK P f c
  inl : InlOK P C E.inl
  cp : C.P = P

theorem run_callFunc {P : Program} {f : Nat} (h : FnOK P f) (args : Array Value) (w : World) : (callFunc f args).run P w = .ok (.enter f args) w := by
  obtain ⟨fn, h1, h2, h3⟩ := h
  have h2' : ¬ fn.name = "runtime.NumGoroutine" := by simpa using h2
  have h3' : ¬ fn.body = none := fun e => by rw [e] at h3; cases h3
  simp [callFunc, program, Sem.run, h1, h2', h3']

theorem MR.glob {P : Program} {C : Ctx} {E : Env} {m : Mem} {U : Nat → Prop} (hm : MR C E m U) (hP : C.P = P) : GOK P E.w := by subst hP; exact C.glob.blw hm.below (Nat.le_refl _)
theorem conK_ok {R : Type} {P : Program} {C : Ctx} (hP : C.P = P) {f : Nat} {c : Con} (hc : ConOK P f c) {vs : List AV} {m : Mem} {nx : Nat} {K : KO R} {y : R} (h : conK c vs m nx K = some y) :
    ∃ v m', K v m' nx = some y ∧ (c.res.any Ty.lists = false → m' = m) ∧ ∀ (E : Env) (xs : List Value) (U : Nat → Prop), All2 (RV E) vs xs → MR C E m U →
      Calls P f xs.toArray E.w fun e w' => ∃ z, e = .returned z ∧ Res C E m U nx nx v m' z w' := by
  unfold conK at h
  split at h
  · cases h
  · rename_i x hx
    split at h
    · rename_i hl
      cases hf : c.fn x with
      | none => simp [hf] at h
      | some r =>
        simp [hf] at h
        refine ⟨_, _, h, fun _ => rfl, fun E xs U hv hm => ?_⟩
        have ha := toPureL_ok hm (im := fun k => E.imm k ∨ owns E m k) (fun k hk => .inl hk) c.args vs xs x hc.args hx hv (fun v _ b bt k _ hl hb hk => .inr ⟨b, bt, hl, hb, hk⟩)
        refine Calls.mono (hc.run E.w _ x xs r (hm.glob hP) (fun k hk => hk.elim (hm.immLt k) (fun ho => (hm.own k ho).1)) ha hf) ?_
        rintro e w' ⟨z, he, hb, hr⟩
        obtain ⟨hm', hx'⟩ := hm.grow' hb
        exact ⟨z, he, { E with w := w' }, rfl, hx', hm'.widen fun _ h => .inl h, ⟨fun j hj _ => hb.block j hj, hb.size, fun _ h => .inl h, fun _ h => .inl h⟩, RV_res_nolist _ _ _ hl hr⟩
    · rename_i hl
      split at h
      · rename_i hg
        cases hf : c.fn x with
        | none => simp [hf] at h
        | some r =>
          simp [hf] at h
          refine ⟨_, _, h, (fun hn => by rw [hl] at hn; cases hn), fun E xs U hv hm => ?_⟩
          obtain ⟨im, hk1, hk2, hk3, hk4⟩ := killL_MR vs hm
          have ha := toPureL_ok hm (im := im) (fun k hk => (hk2.imm k hk).1) c.args vs xs x hc.args hx hv (fun v hv b bt k h1 h2 h3 h4 => hk3 hg v hv b bt k h1 h2 h3 h4)
          refine Calls.mono (hc.run E.w im x xs r (hk1.glob hP) hk1.immLt ha hf) ?_
          rintro e w' ⟨z, he, hb, hr⟩
          obtain ⟨hm', hx'⟩ := hk1.grow hb (im' := fun k => k < w'.heap.size ∧ (k < E.w.heap.size → im k)) (fun k hk => ⟨Nat.lt_of_lt_of_le (hk1.immLt k hk) hb.size, fun _ => hk⟩) (fun k hk => hk.1) (fun k hk hlt => hk.2 hlt)
          refine ⟨z, he, _, rfl, hk2.trans hx', hm'.widen fun _ h => .inl h, ⟨fun j hj _ => hb.block j hj, hb.size, ?_, ?_⟩, ?_⟩
          rotate_left 2
          · have hx2 : Ext ⟨fun _ => none, w', fun k => k < w'.heap.size ∧ (k < E.w.heap.size → im k)⟩ (⟨E.ρ, w', fun k => k < w'.heap.size ∧ (k < E.w.heap.size → im k)⟩ : Env) := ⟨fun _ _ h => by simp at h, fun k hk => ⟨hk, rfl⟩⟩
            exact RV.ext hx2 hr
          · intro j hj
            exact .inl (killL_owns hj)
          · intro k hk
            by_cases hlt : k < E.w.heap.size
            · exact (hk4 k (hk.2 hlt)).elim .inl (fun h => .inr (.inl h))
            · exact .inr (.inr (by omega))
      · cases h

/-! ### Answers that are new memory -/
theorem frNF_len : ∀ (a : Ty) (x : a.den), (frRF a x).length = frNF a := by intro a x; cases a <;> rfl
theorem frNB_len : ∀ (b : Ty) (x : b.den), (frRB b x).length = frNB b := by
  intro b
  induction b with
  | prod a b _ ihb =>
    intro x
    have h : ∀ {α : Type} (l r : List α), (catL l r).length = l.length + r.length := by
      intro α l r; induction l with
      | nil => simp [catL]
      | cons a l ih => simp [catL, ih]; omega
    simp only [frRB, frNB, h, frNF_len, ihb]
  | _ => intro x; rfl
theorem frN_len : ∀ (t : Ty) (x : t.den), (frR t x).length = frN t := by
  intro t x
  cases t with
  | st s => simp only [frR, frN]; cases (Ty.st s).lists <;> first | rfl | exact frNB_len _ _
  | _ => first | exact frNF_len _ x | rfl
theorem catL_app {α : Type} (l r : List α) : catL l r = l ++ r := by
  induction l with
  | nil => rfl
  | cons a l ih => simp [catL, ih]
theorem frNL_len : ∀ (l : List Ty) (y : denL l), (frRL l y).length = frNL l
  | [], _ => rfl
  | t :: r, y => by simp only [frRL, frNL, catL_app, List.length_append, frN_len, frNL_len r y.2]
theorem nthB_left {l r : List AB} {i : Nat} (h : i < l.length) : nthB (catL l r) i = nthB l i := by
  induction l generalizing i with
  | nil => simp at h
  | cons a l ih => cases i with
    | zero => rfl
    | succ i => exact ih (by simpa using h)
theorem nthB_right {l r : List AB} (i : Nat) : nthB (catL l r) (l.length + i) = nthB r i := by
  induction l with
  | nil => simp [catL]
  | cons a l ih => rw [List.length_cons, show l.length + 1 + i = (l.length + i) + 1 by omega]; exact ih
/-- The rows of answers: slices of plain elements. -/
theorem frRF_row : ∀ (a : Ty) (x : a.den) (i : Nat), frOKF a = true → i < frNF a → ∃ t, ∃ xs : List t.den, t.lists = false ∧ nthB (frRF a x) i = .slab t xs := by
  intro a x i h hi
  cases a with
  | list t =>
    have : i = 0 := by simp [frNF] at hi; exact hi
    subst this
    exact ⟨t, x, by simpa [frOKF] using h, rfl⟩
  | _ => simp [frNF] at hi
theorem frRB_row : ∀ (b : Ty) (x : b.den) (i : Nat), frOKB b = true → i < frNB b → ∃ t, ∃ xs : List t.den, t.lists = false ∧ nthB (frRB b x) i = .slab t xs := by
  intro b
  induction b with
  | prod a b _ ihb =>
    intro x i h hi
    simp only [frOKB, Bool.and_eq_true] at h
    simp only [frRB]
    by_cases hlt : i < frNF a
    · rw [nthB_left (by rw [frNF_len]; exact hlt)]
      exact frRF_row a x.1 i h.1 hlt
    · have he : i = (frRF a x.1).length + (i - frNF a) := by rw [frNF_len]; omega
      rw [he, nthB_right]
      exact ihb x.2 _ h.2 (by simp only [frNB] at hi; omega)
  | _ => intro x i _ hi; simp [frNB] at hi
theorem frR_row : ∀ (t : Ty) (x : t.den) (i : Nat), frOK t = true → i < frN t → ∃ u, ∃ xs : List u.den, u.lists = false ∧ nthB (frR t x) i = .slab u xs := by
  intro t x i h hi
  cases t with
  | st s =>
    simp only [frOK] at h
    simp only [frN] at hi
    simp only [frR]
    cases hl : (Ty.st s).lists with
    | true => rw [hl] at h hi; exact frRB_row _ _ i h hi
    | false => rw [hl] at hi; simp at hi
  | _ => exact frRF_row _ x i h hi
theorem frRL_row : ∀ (l : List Ty) (y : denL l) (i : Nat), (∀ t ∈ l, frOK t = true) → i < frNL l → ∃ u, ∃ xs : List u.den, u.lists = false ∧ nthB (frRL l y) i = .slab u xs
  | [], _, i, _, hi => by simp [frNL] at hi
  | t :: r, y, i, h, hi => by
    simp only [frRL]
    by_cases hlt : i < frN t
    · rw [nthB_left (by rw [frN_len]; exact hlt)]
      exact frR_row t y.1 i (h t (by simp)) hlt
    · have he : i = (frR t y.1).length + (i - frN t) := by rw [frN_len]; omega
      rw [he, nthB_right]
      exact frRL_row r y.2 _ (fun t ht => h t (by simp [ht])) (by simp only [frNL] at hi; omega)
/-- The same answers elsewhere. -/
theorem RC_frF {E E' : Env} {a : Ty} {x : a.den} {k k' : Nat} {cs : List Value} (h : frOKF a = true) (hn : ∀ i, i < frNF a → E'.ρ (k' + i) = E.ρ (k + i)) (hr : RC E (frF a x k) cs) : RC E' (frF a x k') cs := by
  cases a with
  | list t =>
    have h0 := hn 0 (by simp [frNF])
    simp only [Nat.add_zero] at h0
    rcases hr with ⟨t', hb, e⟩ | ⟨j, t', cap, len, hb, e⟩
    · exact .inl ⟨t', by rw [h0]; exact hb, e⟩
    · exact .inr ⟨j, t', cap, len, by rw [h0]; exact hb, e⟩
  | _ =>
    simp only [frOKF, Bool.and_eq_true, Bool.not_eq_true'] at h
    exact Rd.nolist _ _ _ h.1 hr
theorem frF_agg {a : Ty} {x : a.den} {k k' : Nat} : (frF a x k).isAgg = (frF a x k').isAgg := by cases a <;> rfl
theorem RC_frB {E E' : Env} : ∀ (b : Ty) (x : b.den) (k k' : Nat) (cs : List Value), frOKB b = true → (∀ i, i < frNB b → E'.ρ (k' + i) = E.ρ (k + i)) → RC E (frB b x k) cs → RC E' (frB b x k') cs := by
  intro b
  induction b with
  | prod a b _ ihb =>
    intro x k k' cs h hn hr
    simp only [frOKB, Bool.and_eq_true] at h
    obtain ⟨c, d, rfl, h1, h2⟩ := hr
    refine ⟨c, d, rfl, RC_frF h.1 (fun i hi => hn i (by simp only [frNB]; omega)) h1, ihb x.2 _ _ d h.2 (fun i hi => ?_) h2⟩
    have := hn (frNF a + i) (by simp only [frNB]; omega)
    simpa [Nat.add_assoc] using this
  | _ => intro x k k' cs _ _ hr; exact hr
theorem RV_frV {E E' : Env} {t : Ty} {x : t.den} {k k' : Nat} {z : Value} (h : frOK t = true) (hn : ∀ i, i < frN t → E'.ρ (k' + i) = E.ρ (k + i)) (hr : RV E (frV t x k) z) : RV E' (frV t x k') z := by
  have key : ∀ (a : Ty) (x : a.den), frOKF a = true → (∀ i, i < frNF a → E'.ρ (k' + i) = E.ρ (k + i)) → RV E (frF a x k) z → RV E' (frF a x k') z := by
    intro a x h hn hr
    obtain ⟨cs, rfl, hc⟩ := hr.cells (by cases a <;> simp [frF]) (by intro l; cases a <;> simp [frF])
    rw [frF_agg (k' := k')]
    exact RV.of (RC_frF h hn hc)
  cases t with
  | st s =>
    simp only [frV, frOK, frN] at *
    cases hl : (Ty.st s).lists with
    | true =>
      rw [hl] at h hn hr
      obtain ⟨cs, rfl, hc⟩ := hr
      exact ⟨cs, rfl, RC_frB s.body _ _ _ cs h hn hc⟩
    | false =>
      rw [hl] at hr
      obtain ⟨cs, rfl, hc⟩ := hr
      exact ⟨cs, rfl, Rd.nolist _ _ _ hl hc⟩
  | _ => exact key _ x h hn hr
theorem frV_no {t : Ty} {x : t.den} {k : Nat} : frV t x k ≠ .junk ∧ ∀ l, frV t x k ≠ .tup l := by
  cases t with
  | st s => simp only [frV]; cases (Ty.st s).lists <;> simp
  | _ => simp [frV, frF]
theorem RVs_frL {E E' : Env} : ∀ (l : List Ty) (y : denL l) (k k' : Nat) (zs : List Value), (∀ t ∈ l, frOK t = true) → (∀ i, i < frNL l → E'.ρ (k' + i) = E.ρ (k + i)) → RVs E (frL l y k) zs → RVs E' (frL l y k') zs
  | [], _, _, _, _, _, _, h => h
  | t :: r, y, k, k', zs, h, hn, hr => by
    obtain ⟨cs, zs', rfl, h1, h2⟩ := hr
    have h3 := RV_frV (E := E) (E' := E') (k' := k') (x := y.1) (h t (by simp)) (fun i hi => hn i (by simp only [frNL]; omega)) (RV.of h1)
    obtain ⟨cs', h4, h5⟩ := h3.cells frV_no.1 frV_no.2
    refine ⟨cs', zs', by rw [h4], h5, RVs_frL r y.2 _ _ zs' (fun t ht => h t (by simp [ht])) (fun i hi => ?_) h2⟩
    have := hn (frN t + i) (by simp only [frNL]; omega)
    simpa [Nat.add_assoc] using this
theorem RV_frAV {E E' : Env} : ∀ (l : List Ty) (y : denL l) (k k' : Nat) (z : Value), (∀ t ∈ l, frOK t = true) → (∀ i, i < frNL l → E'.ρ (k' + i) = E.ρ (k + i)) → RV E (frAV l y k) z → RV E' (frAV l y k') z
  | [t], y, k, k', z, h, hn, hr => RV_frV (h t (by simp)) (fun i hi => hn i (by simp only [frNL]; omega)) hr
  | [], _, _, _, _, _, _, hr => hr
  | t :: u :: r, y, k, k', z, h, hn, hr => by
    obtain ⟨zs, rfl, h1⟩ := hr
    exact ⟨zs, rfl, RVs_frL (t :: u :: r) y k k' zs h hn h1⟩
theorem putRows_in {m : Mem} {k n i : Nat} {rows : List AB} (h : i < n) : putRows m k n rows (k + i) = nthB rows i := by
  have h1 : Nat.ble k (k + i) = true := Nat.ble_eq_true_of_le (by omega)
  have h2 : Nat.blt (k + i) (k + n) = true := by simp; omega
  simp [putRows, h1, h2, Nat.add_sub_cancel_left]
theorem putRows_out {m : Mem} {k n b : Nat} {rows : List AB} (h : ¬ (k ≤ b ∧ b < k + n)) : putRows m k n rows b = m b := by
  unfold putRows
  split
  · rename_i h1 h2
    exact absurd ⟨Nat.le_of_ble_eq_true h1, by simpa using h2⟩ h
  · rfl
theorem fconK_ok {R : Type} {P : Program} {C : Ctx} (hP : C.P = P) {f : Nat} {c : Con} (hc : FConOK P f c) {vs : List AV} {m : Mem} {nx : Nat} {K : KO R} {y : R} (h : fconK c vs m nx K = some y) :
    ∃ v m', K v m' (nx + frNL c.res) = some y ∧ (∀ b, ¬ (nx ≤ b ∧ b < nx + frNL c.res) → m' b = m b) ∧ ∀ (E : Env) (xs : List Value) (U : Nat → Prop), All2 (RV E) vs xs → MR C E m U → (∀ b, nx ≤ b → b < nx + frNL c.res → ¬ U b) →
      Calls P f xs.toArray E.w fun e w' => ∃ z, e = .returned z ∧ Res C E m U nx (nx + frNL c.res) v m' z w' := by
  unfold fconK at h
  split at h
  · cases h
  · rename_i x hx
    cases hf : c.fn x with
    | none => simp [hf] at h
    | some r =>
      simp [hf] at h
      refine ⟨_, _, h, fun b hb => putRows_out hb, fun E xs U hv hm hu => ?_⟩
      have ha := toPureL_ok hm (im := fun k => E.imm k ∨ owns E m k) (fun k hk => .inl hk) c.args vs xs x hc.args hx hv (fun v _ b bt k _ hl hb hk => .inr ⟨b, bt, hl, hb, hk⟩)
      refine Calls.mono (hc.run E.w _ (hm.glob hP) x xs r (fun k hk => hk.elim (hm.immLt k) (fun ho => (hm.own k ho).1)) ha hf) ?_
      rintro e w' ⟨z, he, E', base, m1, U1, hw, hm1, hrows, hz⟩
      subst hw
      refine ⟨z, he, ?_⟩
      have hb : Blw E.w.heap.size E.w E'.w := hm1.below
      obtain ⟨hm2, hx2⟩ := hm.grow' hb
      -- the names
      let ρ2 : Nat → Option BT := fun b => if nx ≤ b ∧ b < nx + frNL c.res then E'.ρ (base + (b - nx)) else E.ρ b
      have hρin : ∀ i, i < frNL c.res → ρ2 (nx + i) = E'.ρ (base + i) := fun i hi => by
        show (if _ then _ else _) = _
        rw [if_pos (by omega), Nat.add_sub_cancel_left]
      have hρout : ∀ b, ¬ (nx ≤ b ∧ b < nx + frNL c.res) → ρ2 b = E.ρ b := fun b hb => if_neg hb
      let E2 : Env := ⟨ρ2, E'.w, E.imm⟩
      have hxE : Ext E E2 := ⟨fun b bt hb' => by
        have hU := hm.nx b bt hb'
        exact (hρout b fun hn => hu b hn.1 hn.2 hU).trans hb', fun k hk => ⟨hk, hb.block k (hm.immLt k hk)⟩⟩
      have hlen := frNL_len c.res r
      -- what lies at a new name
      have hnew : ∀ i, i < frNL c.res → ∃ t, ∃ ys : List t.den, t.lists = false ∧ m1 (base + i) = .slab t ys ∧ nthB (frRL c.res r) i = .slab t ys := fun i hi => by
        obtain ⟨t, ys, h1, h2⟩ := frRL_row c.res r i hc.res hi
        exact ⟨t, ys, h1, by rw [hrows i hi, h2], h2⟩
      have hsrc : ∀ b bt k, live (putRows m nx (frNL c.res) (frRL c.res r) b) → ρ2 b = some bt → bt.base = some k →
          (∃ i, i < frNL c.res ∧ b = nx + i ∧ live (m1 (base + i)) ∧ E'.ρ (base + i) = some bt) ∨ (¬ (nx ≤ b ∧ b < nx + frNL c.res) ∧ live (m b) ∧ E.ρ b = some bt) := by
        intro b bt k hl hb' hk
        by_cases hin : nx ≤ b ∧ b < nx + frNL c.res
        · left
          obtain ⟨i, rfl⟩ := Nat.exists_eq_add_of_le hin.1
          have hi : i < frNL c.res := by omega
          obtain ⟨t, ys, _, h2, _⟩ := hnew i hi
          exact ⟨i, hi, rfl, by rw [h2]; trivial, by rw [← hρin i hi]; exact hb'⟩
        · right
          rw [putRows_out hin] at hl
          rw [hρout b hin] at hb'
          exact ⟨hin, hl, hb'⟩
      have hown : ∀ k, owns E2 (putRows m nx (frNL c.res) (frRL c.res r)) k → owns E' m1 k ∨ owns E m k := by
        rintro k ⟨b, bt, hl, hb', hk⟩
        rcases hsrc b bt k hl hb' hk with ⟨i, _, _, h1, h2⟩ | ⟨_, h1, h2⟩
        · exact .inl ⟨_, bt, h1, h2, hk⟩
        · exact .inr ⟨_, bt, h1, h2, hk⟩
      refine ⟨E2, rfl, hxE, ⟨hm2.below, ?_, ?_, ?_, fun k hk => Nat.lt_of_lt_of_le (hm.immLt k hk) hb.size, hm.immI, ?_⟩, ⟨fun j hj _ => hb.block j hj, hb.size, ?_, fun j hj => .inl hj⟩, ?_⟩
      · intro b
        by_cases hin : nx ≤ b ∧ b < nx + frNL c.res
        · obtain ⟨i, rfl⟩ := Nat.exists_eq_add_of_le hin.1
          have hi : i < frNL c.res := by omega
          obtain ⟨t, ys, h1, h2, h3⟩ := hnew i hi
          rw [putRows_in hi, h3]
          have hbl := hm1.blocks (base + i)
          rw [h2] at hbl
          obtain ⟨g1, g2⟩ := hbl
          refine ⟨g1, ?_⟩
          have he2 : E2.ρ (nx + i) = E'.ρ (base + i) := hρin i hi
          rcases g2 with ⟨g3, g4⟩ | ⟨k, cap, cs, el, css, rest, g3, g4, g5, g6, g7, g8, g9⟩
          · exact .inl ⟨by rw [he2]; exact g3, g4⟩
          · exact .inr ⟨k, cap, cs, el, css, rest, by rw [he2]; exact g3, g4, g5, g6, g7, g8.mono fun y c hr => Rd.nolist _ _ _ h1 hr, g9⟩
        · rw [putRows_out hin]
          exact (hm.blocks b).frame hxE fun bt k hb' hk hl => hb.block k (hm.own k ⟨b, bt, hl, hb', hk⟩).1
      · intro k hk
        rcases hown k hk with ho | ho
        · obtain ⟨o1, o2, o3⟩ := hm1.own k ho
          have o2 : E.w.heap.size ≤ k := o2
          refine ⟨o1, Nat.le_trans hm.below.size o2, fun hi => ?_⟩
          have := hm.immLt k hi; omega
        · obtain ⟨o1, o2, o3⟩ := hm.own k ho
          exact ⟨Nat.lt_of_lt_of_le o1 hb.size, o2, o3⟩
      · intro b b' bt bt' k hl hl' hb1 hb2 hk hk'
        rcases hsrc b bt k hl hb1 hk with ⟨i, hi, e1, h1, h2⟩ | ⟨h0, h1, h2⟩ <;> rcases hsrc b' bt' k hl' hb2 hk' with ⟨i', hi', e1', h1', h2'⟩ | ⟨h0', h1', h2'⟩
        · have := hm1.inj _ _ bt bt' k h1 h1' h2 h2' hk hk'
          omega
        · have o1 := (hm1.own k ⟨_, bt, h1, h2, hk⟩).2.1
          have o2 := (hm.own k ⟨_, bt', h1', h2', hk'⟩).1
          have o1 : E.w.heap.size ≤ k := o1
          omega
        · have o1 := (hm1.own k ⟨_, bt', h1', h2', hk'⟩).2.1
          have o2 := (hm.own k ⟨_, bt, h1, h2, hk⟩).1
          have o1 : E.w.heap.size ≤ k := o1
          omega
        · exact hm.inj b b' bt bt' k h1 h1' h2 h2' hk hk'
      · intro b bt hb'
        by_cases hin : nx ≤ b ∧ b < nx + frNL c.res
        · exact .inr hin
        · have hb' : ρ2 b = some bt := hb'
          rw [hρout b hin] at hb'
          exact .inl (hm.nx b bt hb')
      · intro j hj
        rcases hown j hj with ho | ho
        · exact .inr (hm1.own j ho).2.1
        · exact .inl ho
      · exact RV_frAV c.res r base nx z hc.res (fun i hi => hρin i hi) hz

/-- What a row that was let go holds. -/
theorem rz_ok {C : Ctx} {E : Env} {m : Mem} {U : Nat → Prop} (h : MR C E m U) {v : AV} {x : Value} (hv : RV E v x) : RV E (rz m v) x := by
  cases v with
  | sl b =>
    simp only [rz]
    split
    · rename_i t xs hm
      obtain ⟨cs, h1, h2⟩ := hv
      exact ⟨cs, h1, frz_Rd h hm h2⟩
    · exact hv
  | ssl b lo hi =>
    simp only [rz]
    split
    · rename_i t xs hm
      obtain ⟨cs, h1, h2⟩ := hv
      have hb := h.blocks b
      rw [hm] at hb
      obtain ⟨bt, c, g1, g2, g3, g4⟩ := hb
      exact ⟨cs, h1, ssl_Rd g1 g2 g3 g4 h2⟩
    · exact hv
  | _ => exact hv

/-! ### One operation -/
theorem All2.map' {α β γ δ : Type} {S : γ → δ → Prop} {f : α → γ} {g : β → δ} {R : α → β → Prop} (h : ∀ x y, R x y → S (f x) (g y)) : ∀ {l : List α} {r : List β}, All2 R l r → All2 S (l.map f) (r.map g)
  | [], [], _ => trivial
  | _ :: _, _ :: _, hr => ⟨h _ _ hr.1, All2.map' h hr.2⟩
theorem All2.same {α : Type} {R : α → α → Prop} (h : ∀ x, R x x) : ∀ l : List α, All2 R l l
  | [] => trivial
  | x :: l => ⟨h x, All2.same h l⟩
theorem All2.catL {α : Type} {β : Type} {R : α → β → Prop} : ∀ {xs : List α} {ys : List β} {xs' : List α} {ys' : List β}, All2 R xs ys → All2 R xs' ys' → All2 R (Co.catL xs xs') (ys ++ ys')
  | [], [], _, _, _, h' => h'
  | _ :: _, _ :: _, _, _, h, h' => ⟨h.1, All2.catL h.2 h'⟩
theorem capsRel.all {E : Env} {m : Mem} (hm : ∀ b, RM E b (m b)) : ∀ {caps : List Nat} {vs : List Value}, capsRel E.ρ caps vs → All2 (RV E) (caps.map (capAV m)) vs
  | [], [], _ => trivial
  | b :: _, v :: _, ⟨hx, h3⟩ => by
    refine ⟨?_, capsRel.all hm h3⟩
    have hb := hm b
    unfold capAV
    rcases hx with ⟨k, t, h1, h2⟩ | ⟨k, x, y, h1, h2⟩
    · subst h2
      split
      · exact RV.mkPtr h1 rfl (u := t) (o := 0) ⟨rfl, trivial⟩
      · rename_i he; rw [he] at hb
        obtain ⟨_, _, _, hb, _⟩ := hb
        rw [h1] at hb; cases hb
      · trivial
    · subst h2
      split
      · rename_i he; rw [he] at hb
        obtain ⟨_, _, _, _, hb, _⟩ := hb
        rw [h1] at hb; cases hb
      · exact ⟨_, rfl, k, x, y, h1, rfl⟩
      · trivial
theorem capNames_ok {E : Env} : ∀ {vs : List AV} {xs : List Value} {l : List Nat}, capNames vs = some l → All2 (RV E) vs xs → capsRel E.ρ l xs
  | [], [], l, h, _ => by simp [capNames] at h; subst h; trivial
  | [], _ :: _, _, _, h => h.elim
  | _ :: _, [], _, _, h => h.elim
  | v :: vs, x :: xs, l, h, hx => by
    cases v <;> try (simp [capNames] at h; done)
    · rename_i b p
      cases p with
      | cons s p => simp [capNames] at h
      | nil =>
        simp only [capNames] at h
        cases hc : capNames vs with
        | none => simp [hc] at h
        | some l' =>
          simp [hc] at h; subst h
          obtain ⟨bt, k, u, o, h1, h2, h3, h4⟩ := hx.1.ptr
          cases bt <;> simp [partAt] at h3
          rename_i k' t
          cases h2
          obtain ⟨h5, _⟩ := h3
          simp [tyAt] at h5
          exact ⟨.inl ⟨_, _, h1, by rw [h4, ← h5.2]⟩, capNames_ok hc hx.2⟩
    · rename_i b
      simp only [capNames] at h
      cases hc : capNames vs with
      | none => simp [hc] at h
      | some l' =>
        simp [hc] at h; subst h
        obtain ⟨cs, hv, k, x, y, h1, rfl⟩ := hx.1
        exact ⟨.inr ⟨k, x, y, h1, hv⟩, capNames_ok hc hx.2⟩
theorem RVs_get {E : Env} : ∀ {l : AV} {vs : List Value} {i : Nat} {v : AV}, RVs E l vs → nthAV l i = some v → ∃ z, vs[i]? = some z ∧ RV E v z
  | .cons a l, vs, 0, v, h, hn => by
    obtain ⟨cs, r, rfl, h1, _⟩ := h
    simp [nthAV] at hn; subst hn
    exact ⟨_, by simp, RV.of h1⟩
  | .cons a l, vs, i + 1, v, h, hn => by
    obtain ⟨cs, r, rfl, _, h2⟩ := h
    obtain ⟨z, hz, hr⟩ := RVs_get (i := i) h2 (by simpa [nthAV] using hn)
    exact ⟨z, by simpa using hz, hr⟩
  | .junk, _, i, _, h, _ => h.elim
  | .val _ _, _, i, _, h, _ => h.elim
  | .nils, _, i, _, h, _ => h.elim
  | .eptr _ _, _, i, _, h, _ => h.elim
  | .ptr _ _, _, i, _, h, _ => h.elim
  | .sl _, _, i, _, h, _ => h.elim
  | .asl _ _, _, i, _, h, _ => h.elim
  | .mp _, _, i, _, h, _ => h.elim
  | .fn _ _, _, i, _, h, _ => h.elim
  | .nilp, _, i, _, h, _ => h.elim
  | .tup _, _, i, _, h, _ => h.elim
  | .agv _ _, _, i, _, h, _ => h.elim
  | .nil, _, i, _, _, hn => by cases i <;> simp [nthAV] at hn
theorem run_v {P : Program} {S : Sem Value} {w w' : World} {r : Value} (h : S.run P w = .ok r w') : (do pure (Next.value (← S)) : Sem Next).run P w = .ok (.value r) w' := by simp [h]
theorem run_u {P : Program} {S : Sem Unit} {w w' : World} (h : S.run P w = .ok () w') : (do S; pure Next.skip : Sem Next).run P w = .ok .skip w' := by simp [h]
theorem builtin_opRun {P : Program} {o : Oper} {c : Call} {b : Builtin} (ho : o.op = .call c) (hb : c.callee = .builtin b) (σ : Operand → Value) (w : World) :
    (execOp σ o).run P w = (builtin b c.argTypes o.type (c.args.map fun | .const _ => true | _ => false) (c.args.map σ)).run P w := by
  simp [execOp, ho, resolve, hb, invoke]
  rfl

theorem foldl_push : ∀ (ns : List Int) (s : ByteArray), ns.foldl (fun r n => r.push (UInt8.ofNat n.toNat)) s = ⟨s.data ++ (List.map (fun n => UInt8.ofNat n.toNat) ns).toArray⟩
  | [], s => by cases s; simp
  | n :: ns, s => by
    rw [List.foldl_cons, foldl_push ns]
    cases s with
    | mk d =>
      congr 1
      show (d.push (UInt8.ofNat n.toNat)) ++ _ = _
      rw [Array.push_eq_append, Array.append_assoc]
      congr 1
      simp
theorem all2_u8 {w : World} {im : Nat → Prop} : ∀ {l : List Int} {css : List (List Value)}, All2 (Rd w im (.int .u8)) l css → css.flatten = l.map (Value.int .u8)
  | [], [], _ => rfl
  | n :: l, c :: css, ⟨h1, h2⟩ => by
    obtain ⟨rfl, _⟩ := Rd.int.1 h1
    rw [List.flatten_cons, all2_u8 h2]; rfl
theorem convM_ok {R : Type} {P : Program} {T : Tab} (hT : TabOK P T) {C : Ctx} {m : Mem} {U : Nat → Prop} {src dst : Nat} {x : AV} {K : AV → Option R} {y : R} (h : convM T src dst m x K = some y) :
    ∃ v, K v = some y ∧ ∀ E a, RV E x a → MR C E m U → ∃ z, (convert src dst a).run P E.w = .ok z E.w ∧ RV E v z := by
  unfold convM at h
  split at h
  · rename_i hs hd
    split at h
    · rename_i l hl
      refine ⟨_, h, fun E a ha hm => ?_⟩
      obtain ⟨eid, hu, heid⟩ := (hT src _ hs).1
      have he : P.underlying eid = some (.int .u8) := (hT eid _ heid).1
      have hdd : P.underlying dst = some .string := (hT dst _ hd).1
      obtain ⟨cs, rfl, hc⟩ := ha.cells (by rintro rfl; simp [toPure] at hl) (by rintro q rfl; simp [toPure] at hl)
      have hg : x.isAgg = false := toPure_agg hl (by rintro rfl; simp [toPure] at hl) (by rintro p q rfl; simp [toPure] at hl)
      rw [hg]
      have hr := toPure_RC hm (im := fun k => E.imm k ∨ owns E m k) (fun k hk => .inl hk) x (.list (.int .u8)) l cs hl hc (fun b bt k _ h1 h2 h3 => .inr ⟨b, bt, h1, h2, h3⟩)
      obtain ⟨hb, hr⟩ := Rd.list.1 hr
      have hsz : (txtOf l).size ≤ top := by
        have : (txtOf l).size = List.length l := by simp [txtOf, ByteArray.size]
        rw [this]
        have h1 : (Ty.int .u8).bytes = 1 := rfl
        rw [h1] at hb; omega
      refine ⟨.string (txtOf l), ?_, RV.mkStr hsz⟩
      rcases hr with ⟨rfl, hnil⟩ | ⟨ad, cap, css, rfl, hsp, _, _, hall, _, hcell⟩
      · have hnil : l = [] := hnil
        subst hnil
        show (convert src dst (.slice none 0 0)).run P E.w = _
        rw [run_convert_bytes_string E.w src dst eid none 0 0 hu he hdd]
        rfl
      · show (convert src dst (.slice (some ad) (List.length l) cap)).run P E.w = _
        rw [run_convert_bytes_string E.w src dst eid (some ad) _ cap hu he hdd]
        have hfl : css.flatten = List.map (Value.int .u8) l := all2_u8 hall
        have hlen : (List.map (Value.int .u8) l).length = List.length l := List.length_map ..
        have := run_loadCells_list (P := P) E.w ad (List.map (Value.int .u8) l) (fun j v hv => by
          have hne : l ≠ [] := by rintro rfl; simp at hv
          rw [addr_add' (hsp hne)]
          exact hcell j v (by rw [hfl]; exact hv))
        rw [hlen] at this
        rw [run_bytesToString E.w ad (List.length l) cap l this, foldl_push]
        simp [txtOf]
    · cases h
  · obtain ⟨v, hk, hr⟩ := convK_ok (P := P) hT h
    exact ⟨v, hk, fun E a ha _ => hr E a ha⟩

theorem opF_ok {R : Type} {P : Program} {C : Ctx} {E : EE} (hE : EOK P C E) {ρ : Operand → AV} {o : Oper} {m : Mem} {nx : Nat} {K : KO R} {y : R} (h : opF E ρ o.op m nx K = some y) :
    ∃ v m' nx', nx ≤ nx' ∧ K v m' nx' = some y ∧ (opWr E ρ o.op = false → ∀ b, ¬ (nx ≤ b ∧ b < nx') → m' b = m b) ∧
      ∀ (e : Env) (σ : Operand → Value) (U : Nat → Prop), (∀ x, RV e (ρ x) (σ x)) → MR C e m U → (∀ b, nx ≤ b → b < nx' → ¬ U b) → OpRun P o σ e.w (Res C e m U nx nx' v m') := by
  have pure1 : ∀ (v : AV), K v m nx = some y → (∀ (e : Env) (σ : Operand → Value) (U : Nat → Prop), (∀ x, RV e (ρ x) (σ x)) → MR C e m U → ∃ z, (execOp σ o).run P e.w = .ok (.value z) e.w ∧ RV e v z) →
      ∃ v m' nx', nx ≤ nx' ∧ K v m' nx' = some y ∧ (opWr E ρ o.op = false → ∀ b, ¬ (nx ≤ b ∧ b < nx') → m' b = m b) ∧
      ∀ (e : Env) (σ : Operand → Value) (U : Nat → Prop), (∀ x, RV e (ρ x) (σ x)) → MR C e m U → (∀ b, nx ≤ b → b < nx' → ¬ U b) → OpRun P o σ e.w (Res C e m U nx nx' v m') := by
    intro v hk hr
    refine ⟨v, m, nx, Nat.le_refl _, hk, fun _ _ _ => rfl, fun e σ U hs hm _ => ?_⟩
    obtain ⟨z, hz, hv⟩ := hr e σ U hs hm
    unfold OpRun; rw [hz]
    exact Res.same hm hv
  have alloc1 : ∀ (v : AV) (m' : Mem), K v m' (nx + 1) = some y → (opWr E ρ o.op = false → ∀ b, b ≠ nx → m' b = m b) → (∀ (e : Env) (σ : Operand → Value) (U : Nat → Prop), (∀ x, RV e (ρ x) (σ x)) → MR C e m U → ¬ U nx →
        ∃ z e', (execOp σ o).run P e.w = .ok (.value z) e'.w ∧ Ext e e' ∧ MR C e' m' (fun b => U b ∨ b = nx) ∧ Frm e m e' m' ∧ RV e' v z) →
      ∃ v m' nx', nx ≤ nx' ∧ K v m' nx' = some y ∧ (opWr E ρ o.op = false → ∀ b, ¬ (nx ≤ b ∧ b < nx') → m' b = m b) ∧
      ∀ (e : Env) (σ : Operand → Value) (U : Nat → Prop), (∀ x, RV e (ρ x) (σ x)) → MR C e m U → (∀ b, nx ≤ b → b < nx' → ¬ U b) → OpRun P o σ e.w (Res C e m U nx nx' v m') := by
    intro v m' hk hw hr
    refine ⟨v, m', nx + 1, by omega, hk, fun h b hb => hw h b (by omega), fun e σ U hs hm hu => ?_⟩
    obtain ⟨z, e', hz, h1, h2, h3, h4⟩ := hr e σ U hs hm (hu nx (Nat.le_refl _) (by omega))
    unfold OpRun; rw [hz]
    exact ⟨e', rfl, h1, h2.widen (fun b hb => hb.imp id (fun h => by omega)), h3, h4⟩
  have skip1 : ∀ (m' : Mem), K .junk m' nx = some y → opWr E ρ o.op = true → (∀ (e : Env) (σ : Operand → Value) (U : Nat → Prop), (∀ x, RV e (ρ x) (σ x)) → MR C e m U →
        ∃ e', (execOp σ o).run P e.w = .ok .skip e'.w ∧ Ext e e' ∧ MR C e' m' U ∧ Frm e m e' m') →
      ∃ v m' nx', nx ≤ nx' ∧ K v m' nx' = some y ∧ (opWr E ρ o.op = false → ∀ b, ¬ (nx ≤ b ∧ b < nx') → m' b = m b) ∧
      ∀ (e : Env) (σ : Operand → Value) (U : Nat → Prop), (∀ x, RV e (ρ x) (σ x)) → MR C e m U → (∀ b, nx ≤ b → b < nx' → ¬ U b) → OpRun P o σ e.w (Res C e m U nx nx' v m') := by
    intro m' hk hw hr
    refine ⟨.junk, m', nx, Nat.le_refl _, hk, (fun h => by rw [hw] at h; cases h), fun e σ U hs hm _ => ?_⟩
    obtain ⟨e', hz, h1, h2, h3⟩ := hr e σ U hs hm
    unfold OpRun; rw [hz]
    exact ⟨e', rfl, h1, h2.widen fun _ h => .inl h, h3, trivial⟩
  have hT := hE.tab
  unfold opF at h
  split at h
  · rename_i x ho
    exact pure1 _ h fun e σ U hs hm => ⟨_, by simp [execOp, ho], hs x⟩
  · rename_i x ho
    exact pure1 _ h fun e σ U hs hm => ⟨_, by simp [execOp, ho], hs x⟩
  · rename_i c a b ho
    split at h
    · rename_i t hc
      refine pure1 (bif t then ρ a else ρ b) (by cases t <;> exact h) fun e σ U hs hm => ?_
      have := (hc ▸ hs c : RV e (.val .bool t) (σ c)).bool
      refine ⟨(bif t then σ a else σ b), ?_, by cases t <;> exact hs _⟩
      cases t <;> simp [execOp, ho, this, asBool]
    · cases h
  · rename_i t a ho
    obtain ⟨v, hk, hr⟩ := loadK_ok (P := P) (C := C) (U := fun _ => True) hT h
    refine pure1 v hk fun e σ U hs hm => ?_
    obtain ⟨z, hz, hv⟩ := hr e (σ a) (hs a) (hm.widen fun _ _ => trivial)
    exact ⟨z, by simp [execOp, ho, hz], hv⟩
  · rename_i t x i ho
    obtain ⟨v, hk, hr⟩ := indexK_ok (P := P) hT h
    refine pure1 v hk fun e σ U hs hm => ?_
    obtain ⟨z, hz, hv⟩ := hr e (σ x) (σ i) (hs x) (hs i)
    exact ⟨z, by simp [execOp, ho, hz], hv⟩
  · rename_i t x i ho
    obtain ⟨v, hk, hr⟩ := indexAddrK_ok (P := P) (C := C) (U := fun _ => True) hT h
    refine pure1 v hk fun e σ U hs hm => ?_
    obtain ⟨z, hz, hv⟩ := hr e (σ x) (σ i) (rz_ok hm (hs x)) (hs i) (hm.widen fun _ _ => trivial)
    exact ⟨z, by simp [execOp, ho, hz], hv⟩
  · rename_i t x i ho
    obtain ⟨v, hk, hr⟩ := fieldK_ok (P := P) hT h
    refine pure1 v hk fun e σ U hs hm => ?_
    obtain ⟨z, hz, hv⟩ := hr e (σ x) (hs x)
    exact ⟨z, by simp [execOp, ho, hz], hv⟩
  · rename_i t x i ho
    obtain ⟨v, hk, hr⟩ := fieldAddrK_ok (P := P) (C := C) (U := fun _ => True) hT h
    refine pure1 v hk fun e σ U hs hm => ?_
    obtain ⟨z, hz, hv⟩ := hr e (σ x) (hs x) (hm.widen fun _ _ => trivial)
    exact ⟨z, by simp [execOp, ho, hz], hv⟩
  · rename_i op t x z yt ho
    split at h
    · rename_i te he
      obtain ⟨v, hk, hr⟩ := binK_ok (P := P) hT he h
      refine pure1 v hk fun e σ U hs hm => ?_
      obtain ⟨r, hz, hv⟩ := hr e (σ x) (σ z) x z (hs x) (hs z)
      refine ⟨r, ?_, hv⟩
      simp only [execOp, ho]
      exact run_v hz
    · cases h
  · rename_i op t x ho
    obtain ⟨v, hk, hr⟩ := unK_ok (P := P) h
    refine pure1 v hk fun e σ U hs hm => ?_
    obtain ⟨z, hz, hv⟩ := hr e (σ x) (hs x)
    exact ⟨z, by simp [execOp, ho, hz], hv⟩
  · rename_i s d x ho
    obtain ⟨v, hk, hr⟩ := convM_ok (P := P) (C := C) (U := fun _ => True) hT h
    refine pure1 v hk fun e σ U hs hm => ?_
    obtain ⟨z, hz, hv⟩ := hr e (σ x) (hs x) (hm.widen fun _ _ => trivial)
    exact ⟨z, by simp [execOp, ho, hz], hv⟩
  · rename_i x ho
    split at h
    · rename_i b p hx
      refine pure1 _ h fun e σ U hs hm => ?_
      have hp := hs x
      rw [hx] at hp
      obtain ⟨bt, k, u, o, h1, h2, h3, h4⟩ := hp.ptr
      refine ⟨σ x, ?_, hp⟩
      simp [execOp, ho, h4]
    · cases h
  · rename_i x i ho
    split at h
    · rename_i l hl
      split at h
      · rename_i v hv
        refine pure1 v h fun e σ U hs hm => ?_
        obtain ⟨vs, hz, hr⟩ := (hl ▸ hs x : RV e (.tup l) (σ x))
        obtain ⟨z, h1, h2⟩ := RVs_get hr hv
        exact ⟨z, by simp [execOp, ho, hz, Instr.extract, h1], h2⟩
      · cases h
    · cases h
  · rename_i t x k ok ho
    obtain ⟨v, hk, hr⟩ := lookupK_ok (P := P) (C := C) (U := fun _ => True) hT h
    refine pure1 v hk fun e σ U hs hm => ?_
    obtain ⟨z, hz, hv⟩ := hr e (σ x) (σ k) (hs x) (hs k) (hm.widen fun _ _ => trivial)
    exact ⟨z, by simp [execOp, ho, hz], hv⟩
  · rename_i t x lo hi ho
    obtain ⟨v, hk, hr⟩ := sliceK_ok (P := P) (C := C) (U := fun _ => True) hT h
    refine pure1 v hk fun e σ U hs hm => ?_
    obtain ⟨z, hz, hv⟩ := hr e (σ x) (lo.map σ) (hi.map σ) (rz_ok hm (hs x)) (fun v hv => by
      cases lo with
      | none => simp at hv
      | some l => simp at hv; subst hv; exact ⟨_, rfl, hs l⟩) (fun hv => by cases lo <;> simp_all) (fun v hv => by
      cases hi with
      | none => simp at hv
      | some l => simp at hv; subst hv; exact ⟨_, rfl, hs l⟩) (fun hv => by cases hi <;> simp_all) (hm.widen fun _ _ => trivial)
    exact ⟨z, by simp [execOp, ho, hz], hv⟩
  · rename_i f first caps ho
    split at h
    · rename_i h0
      split at h
      · rename_i l hl
        refine pure1 _ h fun e σ U hs hm => ?_
        have hall : All2 (RV e) (caps.toList.map ρ) (caps.toList.map σ) := All2.map' (R := fun x y => x = y) (fun x y hxy => hxy ▸ hs x) (All2.same (fun _ => rfl) _)
        have hfe : first = #[] := Array.eq_empty_of_size_eq_zero h0
        refine ⟨.func (.func f) #[] (caps.map σ), by simp [execOp, ho, Instr.makeFunc, hfe], [.func (.func f) #[] (caps.map σ)], rfl, caps.toList.map σ, capNames_ok hl hall, ?_⟩
        rw [← Array.toList_map]
      · cases h
    · cases h
  · rename_i t parts ho
    have hparts : ∀ (e : Env) (σ : Operand → Value), (∀ x, RV e (ρ x) (σ x)) → All2 (fun (p : Nat × AV) (q : Nat × Value) => p.1 = q.1 ∧ RV e p.2 q.2) (parts.toList.map fun x => (x.1, ρ x.2)) (parts.map fun x => (x.1, σ x.2)).toList := by
      intro e σ hs
      rw [Array.toList_map]
      exact All2.map' (R := fun x y => x = y) (fun x y hxy => hxy ▸ ⟨rfl, hs x.2⟩) (All2.same (fun _ => rfl) _)
    split at h
    · rename_i s he
      split at h
      · rename_i v hb
        refine pure1 v h fun e σ U hs hm => ?_
        obtain ⟨z, hz, hv⟩ := buildSt_ok (P := P) hT he hb (hparts e σ hs)
        exact ⟨z, by simp [execOp, ho, hz], hv⟩
      · cases h
    · rename_i n u he
      split at h
      · rename_i a hb
        refine pure1 _ h fun e σ U hs hm => ?_
        obtain ⟨z, hz, hv⟩ := buildArr_ok (P := P) hT he hb (hparts e σ hs)
        exact ⟨z, by simp [execOp, ho, hz], hv⟩
      · cases h
    · cases h
  · -- calls
    rename_i c ho
    have hargs : ∀ (e : Env) (σ : Operand → Value), (∀ x, RV e (ρ x) (σ x)) → All2 (RV e) (c.args.toList.map ρ) (c.args.toList.map σ) := fun e σ hs =>
      All2.map' (R := fun x y => x = y) (fun x y hxy => hxy ▸ hs x) (All2.same (fun _ => rfl) _)
    have hargz : ∀ (e : Env) (σ : Operand → Value) {U : Nat → Prop}, MR C e m U → (∀ x, RV e (ρ x) (σ x)) → All2 (RV e) (c.args.toList.map fun o => rz m (ρ o)) (c.args.toList.map σ) := fun e σ U hm hs =>
      All2.map' (R := fun x y => x = y) (fun x y hxy => hxy ▸ rz_ok hm (hs x)) (All2.same (fun _ => rfl) _)
    split at h
    · rename_i b hb
      have hat : c.argTypes = c.argTypes.toList.toArray := rfl
      have har : ∀ σ : Operand → Value, c.args.map σ = (c.args.toList.map σ).toArray := fun σ => by rw [← Array.toList_map]
      unfold builtinK at h
      split at h
      · rename_i t x hts hvs
        obtain ⟨v, hk, hr⟩ := lenK_ok (P := P) (C := C) (U := fun _ => True) (ty := o.type) hT h
        refine pure1 v hk fun e σ U hs hm => ?_
        have ha := hargz e σ hm hs
        rw [hvs] at ha
        match hxs : c.args.toList.map σ, ha with
        | [z], ⟨hx, _⟩ =>
          obtain ⟨r, hz, hv⟩ := hr e z hx (hm.widen fun _ _ => trivial)
          refine ⟨r, ?_, hv⟩
          rw [builtin_opRun ho hb, har, hxs, hat, hts]
          exact run_v hz
      · rename_i t u s x hts hvs
        obtain ⟨m', hk, hr⟩ := appendK_ok (P := P) (C := C) hT h
        refine alloc1 _ m' hk (fun hw => by rw [ho] at hw; simp [opWr, hb] at hw) fun e σ U hs hm hu => ?_
        have ha := hargz e σ hm hs
        rw [hvs] at ha
        match hxs : c.args.toList.map σ, ha with
        | [z1, z2], ⟨hx, hx2, _⟩ =>
          obtain ⟨r, e', hz, g⟩ := hr e z1 z2 o.type U hx hx2 hm hu
          refine ⟨r, e', ?_, g⟩
          rw [builtin_opRun ho hb, har, hxs, hat, hts]
          exact run_v hz
      · obtain ⟨v, hk, hr⟩ := minmaxK_ok (P := P) (tys := c.argTypes) (ty := o.type) h
        refine pure1 v hk fun e σ U hs hm => ?_
        obtain ⟨r, hz, hv⟩ := hr e (c.args.toList.map σ) (by simp) (fun i v a h1 h2 => by
          simp at h1 h2
          obtain ⟨x, hx, rfl⟩ := h1
          obtain ⟨x', hx', rfl⟩ := h2
          rw [hx] at hx'; cases hx'
          exact rz_ok hm (hs x))
        refine ⟨r, ?_, hv⟩
        rw [builtin_opRun ho hb, har]
        exact run_v hz
      · obtain ⟨v, hk, hr⟩ := minmaxK_ok (P := P) (tys := c.argTypes) (ty := o.type) h
        refine pure1 v hk fun e σ U hs hm => ?_
        obtain ⟨r, hz, hv⟩ := hr e (c.args.toList.map σ) (by simp) (fun i v a h1 h2 => by
          simp at h1 h2
          obtain ⟨x, hx, rfl⟩ := h1
          obtain ⟨x', hx', rfl⟩ := h2
          rw [hx] at hx'; cases hx'
          exact rz_ok hm (hs x))
        refine ⟨r, ?_, hv⟩
        rw [builtin_opRun ho hb, har]
        exact run_v hz
      · cases h
    · rename_i f hf
      split at h
      · rename_i fno caps hfv
        -- the run, as far as the call
        have hrun : ∀ (e : Env) (σ : Operand → Value), FnOK P fno → (∀ b, RM e b (m b)) → (∀ x, RV e (ρ x) (σ x)) → ∃ xs : List Value, (execOp σ o).run P e.w = .ok (.enter fno xs.toArray) e.w ∧ All2 (RV e) (catL (c.args.toList.map ρ) (caps.map (capAV m))) xs := by
          intro e σ hfn hmm hs
          obtain ⟨cs, hz, vs, hcaps, hcs⟩ := (hfv ▸ hs f : RV e (.fn fno caps) (σ f))
          subst hcs
          have hz : σ f = .func (.func fno) #[] vs.toArray := hz
          refine ⟨c.args.toList.map σ ++ vs, ?_, (hargs e σ hs).catL (hcaps.all hmm)⟩
          have : c.args.map σ ++ vs.toArray = (c.args.toList.map σ ++ vs).toArray := by
            apply Array.ext'; simp
          simp [execOp, ho, resolve, hf, hz, Deferred.ofValue, invoke, run_callFunc hfn, this]
        unfold callK at h
        split at h
        · rename_i cn hcn
          split at h
          · rename_i hfr
            have hcon := hE.fcon fno cn hcn hfr
            obtain ⟨v, m', hk, hwr, hr⟩ := fconK_ok hE.cp hcon h
            refine ⟨v, m', _, Nat.le_add_right _ _, hk, fun _ b hb => hwr b hb, fun e σ U hs hm hu => ?_⟩
            obtain ⟨xs, h1, h2⟩ := hrun e σ hcon.fn hm.blocks hs
            unfold OpRun; rw [h1]
            exact hr e xs U h2 hm hu
          · rename_i hfr
            have hcon := hE.con fno cn hcn hfr
            obtain ⟨v, m', hk, hwr, hr⟩ := conK_ok hE.cp hcon h
            refine ⟨v, m', nx, Nat.le_refl _, hk, fun hw b _ => ?_, fun e σ U hs hm _ => ?_⟩
            · rw [ho] at hw
              simp [opWr, hf, hfv, hcn, hfr] at hw
              rw [hwr (by simpa using hw)]
            · obtain ⟨xs, h1, h2⟩ := hrun e σ hcon.fn hm.blocks hs
              unfold OpRun; rw [h1]
              exact hr e xs U h2 hm
        · rename_i hcn
          obtain ⟨hfn, v, m', nx', hle, hk, hr⟩ := hE.inl _ _ _ _ _ _ _ h
          refine ⟨v, m', nx', hle, hk, fun hw => ?_, fun e σ U hs hm hu => ?_⟩
          · rw [ho] at hw
            simp [opWr, hf, hfv, hcn] at hw
          · obtain ⟨xs, h1, h2⟩ := hrun e σ hfn hm.blocks hs
            unfold OpRun; rw [h1]
            exact hr e xs U h2 hm hu
      · cases h
    · cases h
  · rename_i t ho
    split at h
    · rename_i t' he
      refine alloc1 _ _ h (fun _ b hb => Mem.put_ne _ _ hb) fun e σ U hs hm hu => ?_
      obtain ⟨h1, h2⟩ := zeroV_ok (E := e) t'
      obtain ⟨e', g1, g2, g3, g4, g5⟩ := alloc_ok hm hu (.cells (zcells t').toArray t) (.var e.w.heap.size t') rfl (.var t' (zeroV t')) (fun hx => ⟨h1, e.w.heap.size, (zcells t').toArray, t, by simp [Env.name], by show (e.w.heap.push _)[e.w.heap.size]? = _; rw [Array.getElem?_push, if_pos rfl], by simpa using (zeroV_ok _).2⟩)
      refine ⟨_, e', by rw [g1]; simp [execOp, ho, alloc_run hT he], g3, g4, g5, RV.mkPtr g2 rfl (u := t') (o := 0) ⟨rfl, trivial⟩⟩
    · rename_i kt vt he
      refine alloc1 _ _ h (fun _ b hb => Mem.put_ne _ _ hb) fun e σ U hs hm hu => ?_
      obtain ⟨e', g1, g2, g3, g4, g5⟩ := alloc_ok hm hu (.cells #[.map none] t) (.var e.w.heap.size .bool) rfl (.var .bool .nilm) (fun hx => ⟨rfl, e.w.heap.size, #[.map none], t, by simp [Env.name], by show (e.w.heap.push _)[e.w.heap.size]? = _; rw [Array.getElem?_push, if_pos rfl], rfl⟩)
      refine ⟨_, e', by rw [g1]; simp [execOp, ho, allocm_run hT he], g3, g4, g5, RV.mkPtr g2 rfl (u := .bool) (o := 0) ⟨rfl, trivial⟩⟩
    · rename_i he
      refine alloc1 _ _ h (fun _ b hb => Mem.put_ne _ _ hb) fun e σ U hs hm hu => ?_
      obtain ⟨e', g1, g2, g3, g4, g5⟩ := alloc_ok hm hu (.cells #[.pointer none] t) (.var e.w.heap.size .bool) rfl (.var .bool .nilp) (fun hx => ⟨rfl, e.w.heap.size, #[.pointer none], t, by simp [Env.name], by show (e.w.heap.push _)[e.w.heap.size]? = _; rw [Array.getElem?_push, if_pos rfl], rfl⟩)
      refine ⟨_, e', by rw [g1]; simp [execOp, ho, allocp_run hT he], g3, g4, g5, RV.mkPtr g2 rfl (u := .bool) (o := 0) ⟨rfl, trivial⟩⟩
    · cases h
  · rename_i t x ho
    split at h
    · rename_i t' he
      split at h
      · rename_i hh
        refine alloc1 _ _ h (fun _ b hb => Mem.put_ne _ _ hb) fun e σ U hs hm hu => ?_
        have hnp := tab_noprod hT he
        obtain ⟨d, hd, hr⟩ := (hs x).cells (by intro e; rw [e] at hh; simp [AV.has] at hh) (by intro l e; rw [e] at hh; simp [AV.has] at hh)
        have hdc : (σ x).cells.toList = d := by
          rw [hd]
          exact hr.cells (by intro e; rw [e] at hh; cases t' <;> simp [AV.has] at hh; exact hnp.2 rfl) (by intro a l e; rw [e] at hh; cases t' <;> simp [AV.has] at hh; exact hnp.1 _ _ rfl)
        obtain ⟨e', g1, g2, g3, g4, g5⟩ := alloc_ok hm hu (.cells (σ x).cells t) (.var e.w.heap.size t') rfl (.var t' (ρ x)) (fun hx => ⟨hh, e.w.heap.size, (σ x).cells, t, by simp [Env.name], by show (e.w.heap.push _)[e.w.heap.size]? = _; rw [Array.getElem?_push, if_pos rfl], by rw [hdc]; exact hr.ext hx⟩)
        refine ⟨_, e', by rw [g1]; simp [execOp, ho, box_run], g3, g4, g5, RV.mkPtr g2 rfl (u := t') (o := 0) ⟨rfl, trivial⟩⟩
      · cases h
    · rename_i kt vt he
      split at h
      · rename_i c hc
        refine alloc1 _ _ h (fun _ b hb => Mem.put_ne _ _ hb) fun e σ U hs hm hu => ?_
        obtain ⟨d, hd, k, x1, y1, hk, rfl⟩ := (hc ▸ hs x : RV e (.mp c) (σ x))
        have hd : σ x = .map (some k) := hd
        obtain ⟨e', g1, g2, g3, g4, g5⟩ := alloc_ok hm hu (.cells (σ x).cells t) (.var e.w.heap.size .bool) rfl (.var .bool (.mp c)) (fun hx => ⟨rfl, e.w.heap.size, (σ x).cells, t, by simp [Env.name], by show (e.w.heap.push _)[e.w.heap.size]? = _; rw [Array.getElem?_push, if_pos rfl], k, x1, y1, hx.ρ _ _ hk, by rw [hd]; rfl⟩)
        refine ⟨_, e', by rw [g1]; simp [execOp, ho, box_run], g3, g4, g5, RV.mkPtr g2 rfl (u := .bool) (o := 0) ⟨rfl, trivial⟩⟩
      · cases h
    · cases h
  · rename_i t a x ho
    obtain ⟨m', hk, hr⟩ := storeK_ok (P := P) (C := C) hT h
    refine skip1 m' hk (by rw [ho]; rfl) fun e σ U hs hm => ?_
    obtain ⟨e', h1, h2, h3, h4⟩ := hr e (σ a) (σ x) U (hs a) (hs x) hm
    refine ⟨e', ?_, h2, h3, h4⟩
    simp only [execOp, ho]
    exact run_u h1
  · rename_i t ho
    split at h
    · rename_i kt vt he
      refine alloc1 _ _ h (fun _ b hb => Mem.put_ne _ _ hb) fun e σ U hs hm hu => ?_
      obtain ⟨e', g1, g2, g3, g4, g5⟩ := alloc_ok hm hu (.map #[] 0) (.map e.w.heap.size kt vt) rfl (.map kt vt []) (fun hx => ⟨e.w.heap.size, #[], 0, by simp [Env.name], by show (e.w.heap.push _)[e.w.heap.size]? = _; rw [Array.getElem?_push, if_pos rfl], trivial, by simp, by simp⟩)
      refine ⟨.map (some e.w.heap.size), e', by rw [g1]; simp [execOp, ho, Instr.makeMap], g3, g4, g5, _, rfl, e.w.heap.size, kt, vt, g2, rfl⟩
    · cases h
  · rename_i t x k v ho
    obtain ⟨m', hk, hr⟩ := mapUpdateK_ok (P := P) (C := C) hT h
    refine skip1 m' hk (by rw [ho]; rfl) fun e σ U hs hm => ?_
    obtain ⟨w', h1, h2, h3, h4, h5, h6⟩ := hr e (σ x) (σ k) (σ v) U (hs x) (hs k) (hs v) hm
    refine ⟨{ e with w := w' }, ?_, h3, h2, ⟨fun j _ hn => h4 j hn, by show _ ≤ w'.heap.size; omega, fun j hj => .inl (h6 j hj), fun j hj => .inl hj⟩⟩
    simp only [execOp, ho]
    exact run_u h1
  · rename_i t n parts ho
    split at h
    · rename_i el he
      split at h
      · rename_i l m' hn hnb hb
        refine alloc1 _ _ h (fun hw => by rw [ho] at hw; simp [opWr] at hw) fun e σ U hs hm hu => ?_
        simp at hn
        have hparts : All2 (fun (p : Nat × AV) (q : Nat × Value) => p.1 = q.1 ∧ RV e p.2 q.2) (parts.toList.map fun x => (x.1, ρ x.2)) (parts.map fun x => (x.1, σ x.2)).toList := by
          rw [Array.toList_map]
          exact All2.map' (R := fun x y => x = y) (fun x y hxy => hxy ▸ ⟨rfl, hs x.2⟩) (All2.same (fun _ => rfl) _)
        obtain ⟨z, e', h1, h2, h3, h4, h5⟩ := buildSlice_ok (P := P) hT he hn.1 hn.2 (Nat.le_of_ble_eq_true hnb) hb hm hu hparts
        refine ⟨z, e', ?_, h2, h3, h4, h5⟩
        simp only [execOp, ho]
        exact run_v h1
      · cases h
    · cases h
  · rename_i t l c ho
    split at h
    · rename_i el kl ln kc cn he hl hc
      split at h
      · rename_i hp
        obtain ⟨hg, h⟩ := guardK_some h
        simp only [Bool.and_eq_true, decide_eq_true_eq] at hg
        refine alloc1 _ _ h (fun _ b hb => Mem.put_ne _ _ hb) fun e σ U hs hm hu => ?_
        obtain ⟨z, e', h1, h2, h3, h4, h5⟩ := makeSlice_ok (P := P) hT he kl kc ln cn hg.1.1 hg.1.2 hg.2 (Nat.le_of_ble_eq_true hp) hm hu
        have e1 : σ l = .int kl ln := by have := hs l; rw [hl] at this; exact this.int.1
        have e2 : σ c = .int kc cn := by have := hs c; rw [hc] at this; exact this.int.1
        refine ⟨z, e', ?_, h2, h3, h4, h5⟩
        simp only [execOp, ho, e1, e2]
        exact run_v h1
      · cases h
    · cases h
  · cases h
end Go.Co
end

section
namespace Go.Co
open Go.RowKit

/-- The frame and memory fit the state. -/
structure Fit (C : Ctx) (n : Nat) (U : Nat → Prop) (e : Env) (s : AS) (a : Act) : Prop where
  defers : a.defers = []
  size : a.tmps.size = n
  slots : ∀ i, RV e (s.slots i) (a.tmps.getD i undef)
  mem : MR C e s.mem U
/-- The names from the one number to the other are taken, too. -/
def taken (U : Nat → Prop) (lo hi : Nat) (b : Nat) : Prop := U b ∨ (lo ≤ b ∧ b < hi)
def free (U : Nat → Prop) (lo hi : Nat) : Prop := ∀ b, lo ≤ b → b < hi → ¬ U b
theorem taken_taken {U : Nat → Prop} {a b c : Nat} (h1 : a ≤ b) (h2 : b ≤ c) {x : Nat} : taken (taken U a b) b c x ↔ taken U a c x := by
  unfold taken; constructor
  · rintro ((h | h) | h)
    · exact .inl h
    · exact .inr ⟨h.1, by omega⟩
    · exact .inr ⟨by omega, h.2⟩
  · rintro (h | h)
    · exact .inl (.inl h)
    · by_cases hx : x < b
      · exact .inl (.inr ⟨h.1, hx⟩)
      · exact .inr ⟨by omega, h.2⟩
theorem free_left {U : Nat → Prop} {a b c : Nat} (h : free U a c) (h2 : b ≤ c) : free U a b := fun x h3 h4 => h x h3 (by omega)
theorem free_right {U : Nat → Prop} {a b c : Nat} (h : free U a c) (h1 : a ≤ b) : free (taken U a b) b c := by
  rintro x h3 h4 (h5 | h5)
  · exact h x (by omega) h4 h5
  · omega
theorem Fit.widen {C : Ctx} {n : Nat} {U U' : Nat → Prop} {e : Env} {s : AS} {a : Act} (h : Fit C n U e s a) (hu : ∀ b, U b → U' b) : Fit C n U' e s a := ⟨h.defers, h.size, h.slots, h.mem.widen hu⟩
theorem know_eq {s : AS} {d : Nat} {b : Bool} (h : s.slots d = .val .bool b) : know s d b = s := by
  cases s with
  | mk sl m nx =>
    simp only [know, AS.put, AS.mk.injEq, and_true]
    funext i
    cases hb : Nat.beq i d with
    | true => rw [Nat.eq_of_beq_eq_true hb]; exact h.symm
    | false => rfl
theorem getD_bool {t : Array Value} {d : Nat} {b : Bool} (h : t.getD d undef = .bool b) : t[d]? = some (.bool b) := by
  rw [Array.getD_eq_getD_getElem?] at h
  cases ht : t[d]? with
  | none => rw [ht] at h; simp [undef] at h
  | some v => rw [ht] at h; simp at h; rw [h]
theorem dstOf_some {ops : Array Oper} {j d : Nat} (h : dstOf ops.toList j = some d) : (ops[j]?).bind (·.dst) = some d := by
  have key : ∀ (l : List Oper) (j : Nat), dstOf l j = some d → (l[j]?).bind (·.dst) = some d := by
    intro l
    induction l with
    | nil => intro j h; cases j <;> simp [dstOf] at h
    | cons o l ih =>
      intro j h
      cases j with
      | zero => simpa [dstOf] using h
      | succ j => simpa using ih j (by simpa [dstOf] using h)
  have := key _ _ h
  simpa using this
theorem yielded_of {ops : Array Oper} {j d : Nat} {t : Array Value} {b : Bool} (h : dstOf ops.toList j = some d) (ht : t.getD d undef = .bool b) : yielded ops t j = some b := by
  unfold yielded
  rw [dstOf_some h]
  simp [getD_bool ht]
theorem yielded_nil {ops : Array Oper} {j d : Nat} {t : Array Value} (h : dstOf ops.toList j = some d) (ht : t.getD d undef = undef) : yielded ops t j = none := by
  unfold yielded
  rw [dstOf_some h]
  rw [Array.getD_eq_getD_getElem?] at ht
  cases hd : t[d]? with
  | none => simp [hd]
  | some v => rw [hd] at ht; simp at ht; subst ht; simp [hd, undef]
theorem RV.nil {e : Env} {v : Value} (h : RV e .nil v) : v = undef := by
  obtain ⟨cs, rfl, hc⟩ := h
  have : cs = [] := hc
  subst this; rfl
theorem RV.skip (e : Env) : RV e .nil undef := ⟨[], rfl, rfl⟩
theorem put_slots {e : Env} {f : Nat → AV} {a : Act} {d : Option Nat} {v : AV} {z : Value} {n : Nat} (hs : ∀ i, RV e (f i) (a.tmps.getD i undef)) (hn : a.tmps.size = n) (hd : (match d with | some d => Nat.blt d n | none => true) = true) (hv : RV e v z) :
    ∀ i, RV e (putD f d v i) ((a.put d z).tmps.getD i undef) := by
  intro i
  cases d with
  | none => exact hs i
  | some d =>
    simp only at hd
    have hd : d < n := by simpa using hd
    simp only [putD, Act.put]
    rw [Array.getD_eq_getD_getElem?, Array.getElem?_setIfInBounds]
    cases hb : Nat.beq i d with
    | true =>
      have := Nat.eq_of_beq_eq_true hb; subst this
      simp [hn, hd]; exact hv
    | false =>
      have hne : d ≠ i := by rintro rfl; simp at hb
      rw [if_neg hne, ← Array.getD_eq_getD_getElem?]; exact hs i
theorem putDst_slots (s : AS) (d : Option Nat) (v : AV) : (putDst s d v).slots = putD s.slots d v := by cases d <;> rfl
theorem putDst_mem (s : AS) (d : Option Nat) (v : AV) : (putDst s d v).mem = s.mem := by cases d <;> rfl
theorem putDst_nx (s : AS) (d : Option Nat) (v : AV) : (putDst s d v).nx = s.nx := by cases d <;> rfl
theorem Fit.put {C : Ctx} {n : Nat} {U U' : Nat → Prop} {e : Env} {s : AS} {a : Act} (h : Fit C n U e s a) {d : Option Nat} (hd : (match d with | some d => Nat.blt d n | none => true) = true) {v : AV} {z : Value} {e' : Env} (hx : Ext e e') {m' : Mem} {nx' : Nat} (hm : MR C e' m' U') (hv : RV e' v z) :
    Fit C n U' e' (putDst ⟨s.slots, m', nx'⟩ d v) (a.put d z) := by
  refine ⟨?_, ?_, ?_, ?_⟩
  · cases d <;> exact h.defers
  · cases d <;> simp [Act.put, h.size]
  · rw [putDst_slots]; exact put_slots (fun i => (h.slots i).ext hx) h.size hd hv
  · rw [putDst_mem]; exact hm
end Go.Co
end

section
namespace Go.Co
open Go.RowKit

/-! ### Parts of memory -/
theorem onlyM_or (l : List Nat) (m : Mem) (b : Nat) : (memB l b = true ∧ onlyM l m b = m b) ∨ (memB l b = false ∧ onlyM l m b = .none) := by
  unfold onlyM; cases h : memB l b <;> simp
theorem over_in {l : List Nat} {m' m : Mem} {b : Nat} (h : memB l b = true) : over l m' m b = m' b := by simp [over, h]
theorem over_out {l : List Nat} {m' m : Mem} {b : Nat} (h : memB l b = false) : over l m' m b = m b := by simp [over, h]
theorem owns_sub {E : Env} {m m2 : Mem} (h : ∀ b, m2 b = m b ∨ m2 b = .none) {j : Nat} (ho : owns E m2 j) : owns E m j := by
  obtain ⟨b, bt, hl, h1, h2⟩ := ho
  rcases h b with hb | hb
  · exact ⟨b, bt, hb ▸ hl, h1, h2⟩
  · rw [hb] at hl; exact hl.elim
theorem owns_only {E : Env} {l : List Nat} {m : Mem} {j : Nat} (ho : owns E (onlyM l m) j) : ∃ b bt, memB l b = true ∧ live (m b) ∧ E.ρ b = some bt ∧ bt.base = some j := by
  obtain ⟨b, bt, hl, h1, h2⟩ := ho
  rcases onlyM_or l m b with ⟨hb, he⟩ | ⟨_, he⟩
  · exact ⟨b, bt, hb, he ▸ hl, h1, h2⟩
  · rw [he] at hl; exact hl.elim
theorem MR.drop {C : Ctx} {E : Env} {m m2 : Mem} {U : Nat → Prop} (h : MR C E m U) (hs : ∀ b, m2 b = m b ∨ m2 b = .none) : MR C E m2 U := by
  have hl : ∀ b, live (m2 b) → live (m b) := fun b hb => by
    rcases hs b with h | h
    · exact h ▸ hb
    · rw [h] at hb; exact hb.elim
  refine ⟨h.below, fun b => ?_, fun k hk => h.own k (owns_sub hs hk), fun b b' b1 b2 k h1 h2 => h.inj b b' b1 b2 k (hl b h1) (hl b' h2), h.immLt, h.immI, h.nx⟩
  rcases hs b with hb | hb
  · rw [hb]; exact h.blocks b
  · rw [hb]; trivial
theorem only_sub (l : List Nat) (m : Mem) (b : Nat) : onlyM l m b = m b ∨ onlyM l m b = .none := (onlyM_or l m b).imp (·.2) (·.2)
/-- What an operation has done to a part, it has done to the whole. -/
theorem MR.part {C : Ctx} {e e' : Env} {m m' : Mem} {U U' : Nat → Prop} {R W : List Nat} (h : MR C e m U) (hx : Ext e e') (h' : MR C e' (over W m' (onlyM R m)) U') (hf : Frm e (onlyM R m) e' (over W m' (onlyM R m))) :
    MR C e' (over W m' m) U' ∧ Frm e m e' (over W m' m) := by
  have hin : ∀ b, memB W b = true ∨ memB R b = true → over W m' m b = over W m' (onlyM R m) b := by
    intro b hb
    cases hw : memB W b with
    | true => rw [over_in hw, over_in hw]
    | false =>
      rw [over_out hw, over_out hw]
      rcases hb with hb | hb
      · rw [hw] at hb; cases hb
      · simp [onlyM, hb]
  have hout : ∀ b, memB W b = false → over W m' m b = m b := fun b hw => over_out hw
  have hcase : ∀ b, (memB W b = true ∨ memB R b = true) ∨ (memB W b = false ∧ memB R b = false) := fun b => by
    cases memB W b <;> cases memB R b <;> simp
  have hnot : ∀ b bt k, memB R b = false → live (m b) → e.ρ b = some bt → bt.base = some k → ¬ owns e (onlyM R m) k := by
    rintro b bt k hb hl h1 h2 ho
    obtain ⟨b2, bt2, g1, g2, g3, g4⟩ := owns_only ho
    have := h.inj b b2 bt bt2 k hl g2 h1 g3 h2 g4
    subst this
    rw [hb] at g1; cases g1
  have hsame : ∀ b bt, live (m b) → e'.ρ b = some bt → e.ρ b = some bt := by
    intro b bt hl hb
    obtain ⟨bt0, h0⟩ := (h.blocks b).some hl
    have := hx.ρ b bt0 h0
    rw [hb] at this; cases this
    exact h0
  have hown1 : ∀ j, owns e' (over W m' m) j → owns e' (over W m' (onlyM R m)) j ∨ (owns e m j ∧ ¬ owns e (onlyM R m) j) := by
    rintro j ⟨b, bt, hl, h1, h2⟩
    rcases hcase b with hb | ⟨hw, hb⟩
    · rw [hin b hb] at hl; exact .inl ⟨b, bt, hl, h1, h2⟩
    · rw [hout b hw] at hl
      have h1 := hsame b bt hl h1
      exact .inr ⟨⟨b, bt, hl, h1, h2⟩, hnot b bt j hb hl h1 h2⟩
  refine ⟨⟨h'.below, ?_, ?_, ?_, h'.immLt, h'.immI, h'.nx⟩, ?_, hf.size, ?_, ?_⟩
  · intro b
    rcases hcase b with hb | ⟨hw, hb⟩
    · rw [hin b hb]; exact h'.blocks b
    · rw [hout b hw]
      refine (h.blocks b).frame hx fun bt k h1 h2 hl => ?_
      exact hf.heap k (h.own k ⟨b, bt, hl, h1, h2⟩).1 (hnot b bt k hb hl h1 h2)
  · intro k hk
    rcases hown1 k hk with ho | ⟨ho, hn⟩
    · exact h'.own k ho
    · obtain ⟨o1, o2, o3⟩ := h.own k ho
      refine ⟨Nat.lt_of_lt_of_le o1 hf.size, o2, fun hi => ?_⟩
      rcases hf.imm k hi with hi | hi | hi
      · exact o3 hi
      · exact hn hi
      · omega
  · intro b b2 bt bt2 k hl hl2 h1 h2 h3 h4
    have mixed : ∀ b b2 bt bt2, (memB W b = true ∨ memB R b = true) → (memB W b2 = false ∧ memB R b2 = false) → live (over W m' m b) → live (over W m' m b2) → e'.ρ b = some bt → e'.ρ b2 = some bt2 → bt.base = some k → bt2.base = some k → False := by
      intro b b2 bt bt2 hb hb2 hl hl2 h1 h2 h3 h4
      rw [hin b hb] at hl
      rw [hout b2 hb2.1] at hl2
      have h2 := hsame b2 bt2 hl2 h2
      rcases hf.own k ⟨b, bt, hl, h1, h3⟩ with ho | ho
      · exact hnot b2 bt2 k hb2.2 hl2 h2 h4 ho
      · have := (h.own k ⟨b2, bt2, hl2, h2, h4⟩).1; omega
    rcases hcase b with hb | hb
    · rcases hcase b2 with hb2 | hb2
      · rw [hin b hb] at hl
        rw [hin b2 hb2] at hl2
        exact h'.inj b b2 bt bt2 k hl hl2 h1 h2 h3 h4
      · exact (mixed b b2 bt bt2 hb hb2 hl hl2 h1 h2 h3 h4).elim
    · rcases hcase b2 with hb2 | hb2
      · exact (mixed b2 b bt2 bt hb2 hb hl2 hl h2 h1 h4 h3).elim
      · rw [hout b hb.1] at hl
        rw [hout b2 hb2.1] at hl2
        exact h.inj b b2 bt bt2 k hl hl2 (hsame b bt hl h1) (hsame b2 bt2 hl2 h2) h3 h4
  · intro j hj hn
    exact hf.heap j hj fun ho => hn (owns_sub (only_sub R m) ho)
  · intro j hj
    rcases hown1 j hj with ho | ⟨ho, _⟩
    · exact (hf.own j ho).imp (owns_sub (only_sub R m)) id
    · exact .inl ho
  · intro j hj
    rcases hf.imm j hj with hi | hi | hi
    · exact .inl hi
    · exact .inr (.inl (owns_sub (only_sub R m) hi))
    · exact .inr (.inr hi)

/-! ### What the operations have done, as many as have been -/
structure Fact where
  fp : FP
  v : AV
  m : Mem
  nx : Nat
  nx' : Nat
def wS (x : Fact) (t : Nat) : Bool := match x.fp.dst with | some d => Nat.beq t d | none => false
def wM (x : Fact) (b : Nat) : Bool := memB x.fp.W b
def FD {α : Type} (D : Nat → Bool) (w : Fact → Nat → Bool) (val : Fact → Nat → α) : Nat → List Fact → (Nat → α) → Nat → α
  | _, [], f => f
  | i, x :: r, f => FD D w val (i + 1) r fun t => if D i && w x t then val x t else f t
theorem FD_congr {α : Type} {D D' : Nat → Bool} {w : Fact → Nat → Bool} {val : Fact → Nat → α} {t : Nat} : ∀ (fs : List Fact) (i : Nat) (f f' : Nat → α), (∀ j x, fs[j]? = some x → w x t = true → D (i + j) = D' (i + j)) → f t = f' t → FD D w val i fs f t = FD D' w val i fs f' t
  | [], _, _, _, _, h => h
  | x :: r, i, f, f', hj, h => by
    refine FD_congr r (i + 1) _ _ (fun j y hy hw => by have := hj (j + 1) y (by simpa using hy) hw; rwa [show i + (j + 1) = i + 1 + j by omega] at this) ?_
    cases hw : w x t with
    | false => simp [h]
    | true =>
      have := hj 0 x (by simp) hw
      simp only [Nat.add_zero] at this
      simp [this, h]
theorem FD_none {α : Type} {D : Nat → Bool} {w : Fact → Nat → Bool} {val : Fact → Nat → α} {t : Nat} : ∀ (fs : List Fact) (i : Nat) (f : Nat → α), (∀ j x, fs[j]? = some x → w x t = true → D (i + j) = false) → FD D w val i fs f t = f t
  | [], _, _, _ => rfl
  | x :: r, i, f, hj => by
    rw [FD, FD_none r (i + 1) _ (fun j y hy hw => by have := hj (j + 1) y (by simpa using hy) hw; rwa [show i + (j + 1) = i + 1 + j by omega] at this)]
    cases hw : w x t with
    | false => simp
    | true =>
      have := hj 0 x (by simp) hw
      simp only [Nat.add_zero] at this
      simp [this]
theorem FD_last {α : Type} {D : Nat → Bool} {w : Fact → Nat → Bool} {val : Fact → Nat → α} {t : Nat} {x : Fact} (hw : w x t = true) : ∀ (fs : List Fact) (i j : Nat) (f : Nat → α), fs[j]? = some x → D (i + j) = true → (∀ j' y, j < j' → fs[j']? = some y → w y t = true → D (i + j') = false) → FD D w val i fs f t = val x t
  | [], _, j, _, h, _, _ => by simp at h
  | y :: r, i, 0, f, h, hd, hj => by
    simp at h; subst h
    rw [FD, FD_none r (i + 1) _ (fun j z hz hwz => by have := hj (j + 1) z (by omega) (by simpa using hz) hwz; rwa [show i + (j + 1) = i + 1 + j by omega] at this)]
    simp only [Nat.add_zero] at hd
    simp [hd, hw]
  | y :: r, i, j + 1, f, h, hd, hj => by
    rw [FD]
    refine FD_last hw r (i + 1) j _ (by simpa using h) (by rwa [show i + 1 + j = i + (j + 1) by omega]) fun j' z hlt hz hwz => ?_
    have := hj (j' + 1) z (by omega) (by simpa using hz) hwz
    rwa [show i + (j' + 1) = i + 1 + j' by omega] at this
theorem memB_iff {l : List Nat} {n : Nat} : memB l n = true ↔ n ∈ l := by
  induction l with
  | nil => simp [memB_nil]
  | cons a l ih =>
    simp only [memB_cons, Bool.or_eq_true, ih, List.mem_cons]
    constructor
    · rintro (h | h)
      · exact .inl (Nat.eq_of_beq_eq_true h)
      · exact .inr h
    · rintro (rfl | h)
      · exact .inl (Nat.beq_refl _)
      · exact .inr h
theorem memB_catL {l r : List Nat} {n : Nat} : memB (catL l r) n = (memB l n || memB r n) := by
  induction l with
  | nil => simp [catL, memB_nil]
  | cons a l ih => simp [catL, memB_cons, ih, Bool.or_assoc]
theorem memB_fromTo {a k n : Nat} : memB (fromTo a k) n = true ↔ a ≤ n ∧ n < a + k := by
  induction k generalizing a with
  | zero => simp [fromTo, memB_nil]
  | succ k ih =>
    simp only [fromTo, memB_cons, Bool.or_eq_true, ih]
    constructor
    · rintro (h | h)
      · have := Nat.eq_of_beq_eq_true h; omega
      · omega
    · intro h
      by_cases hn : n = a
      · subst hn; exact .inl (Nat.beq_refl _)
      · exact .inr (by omega)

/-- A run of an operation if its guard wants it. -/
def GRun (P : Program) (ops : Array Oper) (o : Oper) (a : Act) (w : World) (R : Value → World → Prop) : Prop :=
  if Region.wanted o (yielded ops a.tmps) then OpRun P o a.eval w R else R undef w
structure FactOK (P : Program) (C : Ctx) (n : Nat) (ops : Array Oper) (o : Oper) (x : Fact) (s : AS) : Prop where
  nx : x.nx = s.nx
  le : x.nx ≤ x.nx'
  dst : x.fp.dst = o.dst
  lt : (match o.dst with | some d => Nat.blt d n | none => true) = true
  wr : ∀ b, memB x.fp.W b = true → memB x.fp.R b = true ∨ (x.nx ≤ b ∧ b < x.nx')
  new : ∀ b, x.nx ≤ b → b < x.nx' → memB x.fp.W b = true
  run : ∀ (e : Env) (a : Act) (U : Nat → Prop), (∀ t, memB x.fp.rs t = true → RV e (s.slots t) (a.tmps.getD t undef)) → MR C e (onlyM x.fp.R s.mem) U → (∀ b, x.nx ≤ b → b < x.nx' → ¬ U b) →
    GRun P ops o a e.w (Res C e (onlyM x.fp.R s.mem) U x.nx x.nx' x.v (over x.fp.W x.m (onlyM x.fp.R s.mem)))
def Fact.upon (x : Fact) (s : AS) : AS := ⟨putD s.slots x.fp.dst x.v, over x.fp.W x.m s.mem, x.nx'⟩
def Chain (P : Program) (C : Ctx) (n : Nat) (ops : Array Oper) : List Oper → AS → List Fact → AS → Prop
  | [], s, [], s' => s' = s
  | o :: r, s, x :: fs, s' => FactOK P C n ops o x s ∧ Chain P C n ops r (x.upon s) fs s'
  | _, _, _, _ => False

section
variable {P : Program} {C : Ctx} {E : EE} (hE : EOK P C E) {n : Nat}
include hE
theorem opD_ok {ops : Array Oper} {o : Oper} {rs : List Nat} (hdst : (match o.dst with | some d => Nat.blt d n | none => true) = true) {R : Type} {s : AS} {K : AS → FP → Option R} {y : R} (h : opD E rs o s K = some y) :
    ∃ x : Fact, x.fp.rs = rs ∧ K (x.upon s) x.fp = some y ∧ ((∀ (e : Env) (a : Act), (∀ t, memB rs t = true → RV e (s.slots t) (a.tmps.getD t undef)) → Region.wanted o (yielded ops a.tmps) = true) → FactOK P C n ops o x s) := by
  unfold opD at h
  obtain ⟨v, m', nx', hle, hk, hwr, hr⟩ := opF_ok hE (o := o) h
  generalize hF : footR (opv (only rs s.slots)) s.mem o.op = F at *
  refine ⟨⟨⟨rs, o.dst, F, catL (fromTo s.nx (nx' - s.nx)) (match opWr E (opv (only rs s.slots)) o.op with | true => F | false => [])⟩, v, m', s.nx, nx'⟩, rfl, hk, fun hw => ⟨rfl, hle, rfl, hdst, ?_, ?_, ?_⟩⟩
  · intro b hb
    simp only [memB_catL, Bool.or_eq_true] at hb
    rcases hb with hb | hb
    · have := memB_fromTo.1 hb
      have h2 : b < nx' := by omega
      exact .inr ⟨this.1, h2⟩
    · split at hb
      · exact .inl hb
      · simp [memB_nil] at hb
  · intro b h1 h2
    simp only [memB_catL, Bool.or_eq_true]
    have h1 : s.nx ≤ b := h1
    have h2 : b < nx' := h2
    exact .inl (memB_fromTo.2 ⟨h1, by omega⟩)
  · intro e a U hs hm hu
    unfold GRun
    rw [hw e a hs, if_pos rfl]
    have hσ : ∀ x, RV e (opv (only rs s.slots) x) (a.eval x) := by
      intro x
      refine opv_ok (fun i => ?_) x
      unfold only
      cases hi : memB rs i with
      | true => exact hs i hi
      | false => trivial
    refine OpRun.mono (hr e a.eval U hσ hm hu) ?_
    rintro z w' ⟨e', hw', hx, hm', hf, hv⟩
    have hsub : ∀ b, over (catL (fromTo s.nx (nx' - s.nx)) (match opWr E (opv (only rs s.slots)) o.op with | true => F | false => [])) m' (onlyM F s.mem) b = m' b ∨
        over (catL (fromTo s.nx (nx' - s.nx)) (match opWr E (opv (only rs s.slots)) o.op with | true => F | false => [])) m' (onlyM F s.mem) b = .none := by
      intro b
      cases hb : memB (catL (fromTo s.nx (nx' - s.nx)) (match opWr E (opv (only rs s.slots)) o.op with | true => F | false => [])) b with
      | true => rw [over_in hb]; exact .inl rfl
      | false =>
        rw [over_out hb]
        rcases onlyM_or F s.mem b with ⟨hf, he⟩ | ⟨hf, he⟩
        · left
          simp only [memB_catL, Bool.or_eq_false_iff] at hb
          cases hwb : opWr E (opv (only rs s.slots)) o.op with
          | true => rw [hwb] at hb; simp only at hb; rw [hf] at hb; exact absurd hb.2 (by simp)
          | false =>
            refine (hwr hwb b fun hlt => ?_).symm
            have := memB_fromTo.2 (⟨hlt.1, by omega⟩ : s.nx ≤ b ∧ b < s.nx + (nx' - s.nx))
            rw [this] at hb; exact absurd hb.1 (by simp)
        · exact .inr he
    exact ⟨e', hw', hx, hm'.drop hsub, ⟨hf.heap, hf.size, fun j hj => hf.own j (owns_sub hsub hj), hf.imm⟩, hv⟩
omit hE in
theorem skipD_ok {ops : Array Oper} {o : Oper} {d : Nat} (hdst : (match o.dst with | some d => Nat.blt d n | none => true) = true) (s : AS) (hw : ∀ (e : Env) (a : Act), (∀ t, memB [d] t = true → RV e (s.slots t) (a.tmps.getD t undef)) → Region.wanted o (yielded ops a.tmps) = false) :
    FactOK P C n ops o ⟨⟨[d], o.dst, [], []⟩, .nil, fun _ => .none, s.nx, s.nx⟩ s := by
  refine ⟨rfl, Nat.le_refl _, rfl, hdst, (fun b h => by simp [memB_nil] at h), (fun b h1 h2 => absurd (Nat.lt_of_lt_of_le h2 h1) (Nat.lt_irrefl _)), fun e a U hs hm _ => ?_⟩
  unfold GRun
  rw [hw e a hs]
  simp only [Bool.false_eq_true, if_false]
  refine ⟨e, rfl, Ext.refl _, ?_, ?_, RV.skip e⟩
  · have : over [] (fun _ => AB.none) (onlyM [] s.mem) = onlyM [] s.mem := by funext b; simp [over, memB_nil]
    rw [this]; exact hm.widen fun _ h => .inl h
  · have : over [] (fun _ => AB.none) (onlyM [] s.mem) = onlyM [] s.mem := by funext b; simp [over, memB_nil]
    rw [this]; exact Frm.refl _ _
omit hE in
theorem skip_upon (o : Oper) (d : Nat) (s : AS) : Fact.upon ⟨⟨[d], o.dst, [], []⟩, .nil, fun _ => .none, s.nx, s.nx⟩ s = ⟨putD s.slots o.dst .nil, s.mem, s.nx⟩ := by
  have : over [] (fun _ => AB.none) s.mem = s.mem := by funext b; simp [over, memB_nil]
  unfold Fact.upon; rw [this]

theorem evDraw_ok {ops : Array Oper} {R : Type} {y : R} {K : AS → List FP → Option R} : ∀ (rest : List Oper) (s : AS) (fs : List FP), evDraw E n ops.toList rest s fs K = some y →
    ∃ (xs : List Fact) (s' : AS), Chain P C n ops rest s xs s' ∧ K s' (fs ++ xs.map (·.fp)) = some y := by
  intro rest
  induction rest with
  | nil => intro s fs h; exact ⟨[], s, rfl, by simpa [evDraw] using h⟩
  | cons o rest ih =>
    intro s fs h
    have snoc_eq : ∀ (l : List FP) (x : FP), l.snoc x = l ++ [x] := fun l x => by
      induction l with
      | nil => rfl
      | cons a l ih => simp [List.snoc, ih]
    simp only [evDraw] at h
    split at h
    · cases h
    · rename_i hd
      have run1 : ∀ rs : List Nat, (∀ (e : Env) (a : Act), (∀ t, memB rs t = true → RV e (s.slots t) (a.tmps.getD t undef)) → Region.wanted o (yielded ops a.tmps) = true) →
          opD E rs o s (fun s f => evDraw E n ops.toList rest s (fs.snoc f) K) = some y → ∃ (xs : List Fact) (s' : AS), Chain P C n ops (o :: rest) s xs s' ∧ K s' (fs ++ xs.map (·.fp)) = some y := by
        intro rs hw h
        obtain ⟨x, _, hk, hx⟩ := opD_ok hE (n := n) (ops := ops) hd h
        obtain ⟨xs, s', h1, h2⟩ := ih _ _ hk
        refine ⟨x :: xs, s', ⟨hx hw, h1⟩, ?_⟩
        rw [snoc_eq] at h2; simpa using h2
      have skip1 : ∀ d : Nat, (∀ (e : Env) (a : Act), (∀ t, memB [d] t = true → RV e (s.slots t) (a.tmps.getD t undef)) → Region.wanted o (yielded ops a.tmps) = false) →
          evDraw E n ops.toList rest ⟨putD s.slots o.dst .nil, s.mem, s.nx⟩ (fs.snoc ⟨[d], o.dst, [], []⟩) K = some y → ∃ (xs : List Fact) (s' : AS), Chain P C n ops (o :: rest) s xs s' ∧ K s' (fs ++ xs.map (·.fp)) = some y := by
        intro d hw h
        obtain ⟨xs, s', h1, h2⟩ := ih _ _ h
        refine ⟨_ :: xs, s', ⟨skipD_ok hd s hw, ?_⟩, ?_⟩
        · rw [skip_upon]; exact h1
        · rw [snoc_eq] at h2; simpa using h2
      split at h
      · rename_i hg
        exact run1 _ (fun e a _ => by simp [Region.wanted, hg]) h
      · rename_i j want hg
        split at h
        · cases h
        · rename_i d hdst
          split at h
          · rename_i b hb
            have hy : ∀ (rs : List Nat), memB rs d = true → ∀ (e : Env) (a : Act), (∀ t, memB rs t = true → RV e (s.slots t) (a.tmps.getD t undef)) → yielded ops a.tmps j = some b := fun rs hrs e a hs => yielded_of hdst (by
              have := hs d hrs
              rw [hb] at this
              exact this.bool)
            have hin : memB (d :: tmpsOf (opndL o.op)) d = true := by simp [memB_cons]
            have hin2 : memB [d] d = true := by simp [memB_nil, memB_cons]
            split at h
            · cases b with
              | true =>
                rw [know_eq hb] at h
                exact run1 _ (fun e a hs => by simp [Region.wanted, hg, hy _ hin e a hs]) h
              | false =>
                rw [know_eq hb] at h
                exact skip1 d (fun e a hs => by simp [Region.wanted, hg, hy _ hin2 e a hs]) h
            · cases b with
              | true =>
                rw [know_eq hb] at h
                exact skip1 d (fun e a hs => by simp [Region.wanted, hg, hy _ hin2 e a hs]) h
              | false =>
                rw [know_eq hb] at h
                exact run1 _ (fun e a hs => by simp [Region.wanted, hg, hy _ hin e a hs]) h
          · rename_i hb
            have hin2 : memB [d] d = true := by simp [memB_nil, memB_cons]
            exact skip1 d (fun e a hs => by
              have := hs d hin2
              rw [hb] at this
              simp [Region.wanted, hg, yielded_nil hdst this.nil]) h
          · cases h
end
end Go.Co
end

section
namespace Go.Co
open Go.RowKit

def vS (x : Fact) (_ : Nat) : AV := x.v
def vM (x : Fact) (b : Nat) : AB := x.m b
theorem putD_eq (f : Nat → AV) (x : Fact) : putD f x.fp.dst x.v = fun t => if true && wS x t then vS x t else f t := by
  funext t
  unfold putD wS vS
  cases x.fp.dst with
  | none => simp
  | some d =>
    simp only [Bool.true_and]
    split
    · rename_i h; simp [h]
    · rename_i h; simp [h]
theorem over_eq (m : Mem) (x : Fact) : over x.fp.W x.m m = fun b => if true && wM x b then vM x b else m b := by
  funext b
  unfold over wM vM
  split
  · rename_i h; simp [h]
  · rename_i h; simp [h]
section
variable {P : Program} {C : Ctx} {n : Nat} {ops : Array Oper}
/-- The state before the i-th operation, and behind the last. -/
theorem chain_at : ∀ (rest : List Oper) (s : AS) (fs : List Fact) (s' : AS), Chain P C n ops rest s fs s' → fs.length = rest.length ∧
    (∀ i x, fs[i]? = some x → ∃ o si, rest[i]? = some o ∧ FactOK P C n ops o x si ∧ (∀ t, si.slots t = FD (fun j => decide (j < i)) wS vS 0 fs s.slots t) ∧ (∀ b, si.mem b = FD (fun j => decide (j < i)) wM vM 0 fs s.mem b) ∧ s.nx ≤ si.nx ∧
      (∀ j z, j < i → fs[j]? = some z → z.nx' ≤ x.nx)) ∧
    (∀ t, s'.slots t = FD (fun _ => true) wS vS 0 fs s.slots t) ∧ (∀ b, s'.mem b = FD (fun _ => true) wM vM 0 fs s.mem b) ∧ s.nx ≤ s'.nx ∧ (∀ (i : Nat) (x : Fact), fs[i]? = some x → x.nx' ≤ s'.nx) := by
  have shift : ∀ {α : Type} (D : Nat → Bool) (w : Fact → Nat → Bool) (val : Fact → Nat → α) (fs : List Fact) (i : Nat) (f : Nat → α) (t : Nat), FD D w val (i + 1) fs f t = FD (fun j => D (j + 1)) w val i fs f t := by
    intro α D w val fs
    induction fs with
    | nil => intro i f t; rfl
    | cons x r ih => intro i f t; simp only [FD]; rw [ih]
  intro rest
  induction rest with
  | nil =>
    intro s fs s' h
    cases fs with
    | nil => cases h; exact ⟨rfl, fun i x h => by simp at h, fun _ => rfl, fun _ => rfl, Nat.le_refl _, fun i x h => by simp at h⟩
    | cons x fs => exact h.elim
  | cons o rest ih =>
    intro s fs s' h
    cases fs with
    | nil => exact h.elim
    | cons x fs =>
      obtain ⟨hx, h⟩ := h
      obtain ⟨h1, h2, h3, h4, h5, h6⟩ := ih _ fs s' h
      have hup : (x.upon s).nx = x.nx' := rfl
      rw [hup] at h5
      have hxn := hx.nx
      have hxl := hx.le
      refine ⟨by simp [h1], ?_, ?_, ?_, by omega, ?_⟩
      · intro i z hz
        cases i with
        | zero =>
          simp at hz; subst hz
          refine ⟨o, s, by simp, hx, fun t => ?_, fun b => ?_, Nat.le_refl _, fun j z hj => by omega⟩
          · rw [FD_none]; intro j y _ _; simp
          · rw [FD_none]; intro j y _ _; simp
        | succ i =>
          obtain ⟨o', si, g1, g2, g3, g4, g5, g6⟩ := h2 i z (by simpa using hz)
          refine ⟨o', si, by simpa using g1, g2, fun t => ?_, fun b => ?_, by rw [hup] at g5; omega, fun j y hj hy => ?_⟩
          · rw [g3 t, FD, shift]
            have : (x.upon s).slots = putD s.slots x.fp.dst x.v := rfl
            rw [this, putD_eq]
            simp
          · rw [g4 b, FD, shift]
            have : (x.upon s).mem = over x.fp.W x.m s.mem := rfl
            rw [this, over_eq]
            simp
          · cases j with
            | zero =>
              simp at hy; subst hy
              rw [g2.nx]; rw [hup] at g5; exact g5
            | succ j => exact g6 j y (by omega) (by simpa using hy)
      · intro t
        rw [h3 t, FD, shift]
        have : (x.upon s).slots = putD s.slots x.fp.dst x.v := rfl
        rw [this, putD_eq]
      · intro b
        rw [h4 b, FD, shift]
        have : (x.upon s).mem = over x.fp.W x.m s.mem := rfl
        rw [this, over_eq]
      · intro i z hz
        cases i with
        | zero => simp at hz; subst hz; exact h5
        | succ i => exact h6 i z (by simpa using hz)

/-! ### Edges -/
theorem edgesAt_get {j : Nat} {o : Oper} (h : ops[j]? = some o) : edgesAt ops.toList j = onOf o.after.toList := by
  have key : ∀ (l : List Oper) (j : Nat), l[j]? = some o → edgesAt l j = onOf o.after.toList := by
    intro l
    induction l with
    | nil => intro j h; simp at h
    | cons p l ih =>
      intro j h
      cases j with
      | zero => simp at h; subst h; rfl
      | succ j => simp only [edgesAt]; exact ih j (by simpa using h)
  exact key _ _ (by simpa using h)
theorem edgesAt_none {j : Nat} (h : ops[j]? = none) : edgesAt ops.toList j = [] := by
  have key : ∀ (l : List Oper) (j : Nat), l[j]? = none → edgesAt l j = [] := by
    intro l
    induction l with
    | nil => intro j _; cases j <;> rfl
    | cons p l ih =>
      intro j h
      cases j with
      | zero => simp at h
      | succ j => simp only [edgesAt]; exact ih j (by simpa using h)
  exact key _ _ (by simpa using h)
theorem mem_onOf {es : List Edge} {k : Nat} : k ∈ onOf es ↔ ∃ e ∈ es, Region.binds .any e = true ∧ e.on = k := by
  induction es with
  | nil => simp [onOf]
  | cons e es ih =>
    simp only [onOf]
    cases hb : Region.binds .any e with
    | true => simp only [List.mem_cons, ih]; constructor
              · rintro (h | ⟨e', h1, h2, h3⟩)
                · exact ⟨e, .inl rfl, hb, h.symm⟩
                · exact ⟨e', .inr h1, h2, h3⟩
              · rintro ⟨e', (rfl | h1), h2, h3⟩
                · exact .inl h3.symm
                · exact .inr ⟨e', h1, h2, h3⟩
    | false =>
      simp only [ih]; constructor
      · rintro ⟨e', h1, h2, h3⟩; exact ⟨e', by simp [h1], h2, h3⟩
      · rintro ⟨e', h1, h2, h3⟩
        rcases List.mem_cons.1 h1 with rfl | h1
        · rw [hb] at h2; cases h2
        · exact ⟨e', h1, h2, h3⟩
/-- What comes before an operation that has been done or may be now, has been done. -/
theorem befB_D {D : Nat → Bool} (hD : ∀ j, D j = true → ∀ e ∈ edgesAt ops.toList j, D e = true) : ∀ (k i j : Nat), befB ops.toList k i j = true → (∀ e ∈ edgesAt ops.toList j, D e = true) → D i = true
  | 0, i, j, h, _ => by simp [befB] at h
  | k + 1, i, j, h, hj => by
    simp only [befB, Bool.or_eq_true, List.any_eq_true, Bool.and_eq_true] at h
    rcases h with h | ⟨e, he, _, h⟩
    · exact hj i (memB_iff.1 h)
    · exact befB_D hD k i e h (hD e (hj e he))
theorem mem_ready' {listed : Array Bool} {i : Nat} : i ∈ Region.ready .any ops listed ↔ i < ops.size ∧ listed.getD i true = false ∧ ∀ e ∈ edgesAt ops.toList i, listed.getD e false = true := by
  unfold Region.ready
  simp only [List.mem_filter, List.mem_range, Bool.and_eq_true, Bool.not_eq_true']
  constructor
  · rintro ⟨h1, h2, h3⟩
    refine ⟨h1, h2, fun e he => ?_⟩
    rw [edgesAt_get (Array.getElem?_eq_getElem h1)] at he
    obtain ⟨ed, g1, g2, rfl⟩ := mem_onOf.1 he
    rw [Array.getElem?_eq_getElem h1] at h3
    simp only [Option.map_some, Option.getD_some, Array.all_eq_true', Bool.or_eq_true, Bool.not_eq_true'] at h3
    rcases h3 ed (by simpa using g1) with h | h
    · rw [g2] at h; cases h
    · exact h
  · rintro ⟨h1, h2, h3⟩
    refine ⟨h1, h2, ?_⟩
    rw [Array.getElem?_eq_getElem h1]
    simp only [Option.map_some, Option.getD_some, Array.all_eq_true', Bool.or_eq_true, Bool.not_eq_true']
    intro ed hed
    cases hb : Region.binds .any ed with
    | false => exact .inl rfl
    | true =>
      refine .inr (h3 _ ?_)
      rw [edgesAt_get (Array.getElem?_eq_getElem h1)]
      exact mem_onOf.2 ⟨ed, by simpa using hed, hb, rfl⟩

/-! ### The invariant -/
variable {s0 s1 : AS} {fs : List Fact} {e0 : Env} {U : Nat → Prop}
def UD (U : Nat → Prop) (fs : List Fact) (D : Nat → Bool) (b : Nat) : Prop := U b ∨ ∃ i x, D i = true ∧ fs[i]? = some x ∧ x.nx ≤ b ∧ b < x.nx'
structure Inv (C : Ctx) (n : Nat) (U : Nat → Prop) (s0 : AS) (fs : List Fact) (e0 : Env) (D : Nat → Bool) (e : Env) (a : Act) : Prop where
  defers : a.defers = []
  size : a.tmps.size = n
  slots : ∀ t, RV e (FD D wS vS 0 fs s0.slots t) (a.tmps.getD t undef)
  mem : MR C e (FD D wM vM 0 fs s0.mem) (UD U fs D)
  ext : Ext e0 e
  frm : Frm e0 s0.mem e (FD D wM vM 0 fs s0.mem)
def Pairs (ops : Array Oper) (fs : List Fact) : Prop := ∀ i j f g, i < j → fs[i]? = some f → fs[j]? = some g → apartB f.fp g.fp = true ∨ befB ops.toList 6 i j = true

theorem inv_step (hU : free U s0.nx s1.nx) (hch : Chain P C n ops ops.toList s0 fs s1) (hp : Pairs ops fs) {D : Nat → Bool} (hD : ∀ j, D j = true → ∀ e ∈ edgesAt ops.toList j, D e = true) {i : Nat} (hi : D i = false) (hpre : ∀ e ∈ edgesAt ops.toList i, D e = true)
    {o : Oper} (ho : ops[i]? = some o) {e : Env} {a : Act} (hv : Inv C n U s0 fs e0 D e a) {Q : Exit → Act → World → Prop} {K : Act → World → Prop}
    (hK : ∀ e' a', Inv C n U s0 fs e0 (fun j => D j || decide (j = i)) e' a' → K a' e'.w) : wpOp P ops Q i K a e.w := by
  obtain ⟨hlen, hat, _, _, _, hbnd⟩ := chain_at _ _ _ _ hch
  have hil : i < fs.length := by
    rw [hlen]
    have := (Array.getElem?_eq_some_iff.1 ho).1
    simpa using this
  obtain ⟨x, hx⟩ : ∃ x, fs[i]? = some x := ⟨_, List.getElem?_eq_getElem hil⟩
  obtain ⟨o', si, ho', hf, hs, hm, hnx, hnx2⟩ := hat i x hx
  have : o' = o := by
    have h2 : ops.toList[i]? = some o := by simpa using ho
    rw [h2] at ho'; cases ho'; rfl
  subst this
  -- before and behind
  have hbef : ∀ j f, j < i → fs[j]? = some f → apartB f.fp x.fp = false → D j = true := by
    intro j f hj hfj hna
    rcases hp j i f x hj hfj hx with h | h
    · rw [hna] at h; cases h
    · exact befB_D hD 6 j i h hpre
  have hbeh : ∀ j f, i < j → fs[j]? = some f → apartB x.fp f.fp = false → D j = false := by
    intro j f hj hfj hna
    cases hd : D j with
    | false => rfl
    | true =>
      rcases hp i j x f hj hx hfj with h | h
      · rw [hna] at h; cases h
      · have := befB_D hD 6 i j h (hD j hd)
        rw [hi] at this; cases this
  have hwS : ∀ (f : Fact) (t : Nat), wS f t = true → f.fp.dst = some t := by
    intro f t h
    unfold wS at h
    cases hd : f.fp.dst with
    | none => rw [hd] at h; cases h
    | some d => rw [hd] at h; rw [Nat.eq_of_beq_eq_true h]
  have meets_of : ∀ (l r : List Nat) (b : Nat), memB l b = true → memB r b = true → meets l r = true := by
    intro l r b h1 h2
    unfold meets
    rw [List.any_eq_true]
    exact ⟨b, memB_iff.1 h1, h2⟩
  have agreeS : ∀ t, memB x.fp.rs t = true → FD D wS vS 0 fs s0.slots t = si.slots t := by
    intro t ht
    rw [hs t]
    refine FD_congr fs 0 _ _ (fun j f hfj hw => ?_) rfl
    have hd := hwS f t hw
    simp only [Nat.zero_add]
    rcases Nat.lt_trichotomy j i with hlt | heq | hgt
    · rw [hbef j f hlt hfj (by simp [apartB, memO, hd, ht])]; simp [hlt]
    · subst heq; rw [hi]; simp
    · rw [hbeh j f hgt hfj (by simp [apartB, memO, hd, ht])]; simp; omega
  have agreeM : ∀ b, memB x.fp.R b = true → FD D wM vM 0 fs s0.mem b = si.mem b := by
    intro b hb
    rw [hm b]
    refine FD_congr fs 0 _ _ (fun j f hfj hw => ?_) rfl
    simp only [Nat.zero_add]
    rcases Nat.lt_trichotomy j i with hlt | heq | hgt
    · rw [hbef j f hlt hfj (by simp [apartB, meets_of _ _ b hw hb])]; simp [hlt]
    · subst heq; rw [hi]; simp
    · rw [hbeh j f hgt hfj (by simp [apartB, meets_of _ _ b hb hw])]; simp; omega
  have honly : onlyM x.fp.R (FD D wM vM 0 fs s0.mem) = onlyM x.fp.R si.mem := by
    funext b
    unfold onlyM
    cases hb : memB x.fp.R b with
    | true => simp only; exact agreeM b hb
    | false => rfl
  have hfresh : ∀ b, x.nx ≤ b → b < x.nx' → ¬ UD U fs D b := by
    rintro b h1 h2 (h3 | ⟨j, z, hz1, hz2, hz3, hz4⟩)
    · have := hf.nx
      have := hbnd i x hx
      exact hU b (by omega) (by omega) h3
    · rcases Nat.lt_trichotomy j i with hlt | heq | hgt
      · have := hnx2 j z hlt hz2; omega
      · subst heq; rw [hi] at hz1; cases hz1
      · obtain ⟨_, _, _, _, _, _, _, g⟩ := hat j z hz2
        have := g i x hgt hx
        omega
  have hafterS : ∀ t, FD (fun j => D j || decide (j = i)) wS vS 0 fs s0.slots t = putD (FD D wS vS 0 fs s0.slots) x.fp.dst x.v t := by
    intro t
    rw [putD_eq]
    simp only
    cases hw : wS x t with
    | true =>
      rw [if_pos (by simp)]
      refine FD_last hw fs 0 i _ hx (by simp) fun j f hj hfj hwf => ?_
      have hd := hwS f t hwf
      have hd2 := hwS x t hw
      simp only [Nat.zero_add]
      rw [hbeh j f hj hfj (by simp [apartB, eqO, hd, hd2])]
      simp; omega
    | false =>
      rw [if_neg (by simp)]
      refine FD_congr fs 0 _ _ (fun j f hfj hwf => ?_) rfl
      simp only [Nat.zero_add]
      by_cases hji : j = i
      · subst hji; rw [hx] at hfj; cases hfj; rw [hw] at hwf; cases hwf
      · simp [hji]
  have hafterM : FD (fun j => D j || decide (j = i)) wM vM 0 fs s0.mem = over x.fp.W x.m (FD D wM vM 0 fs s0.mem) := by
    funext b
    rw [over_eq]
    simp only
    cases hw : wM x b with
    | true =>
      rw [if_pos (by simp)]
      refine FD_last hw fs 0 i _ hx (by simp) fun j f hj hfj hwf => ?_
      simp only [Nat.zero_add]
      rw [hbeh j f hj hfj (by simp [apartB, meets_of _ _ b hw hwf])]
      simp; omega
    | false =>
      rw [if_neg (by simp)]
      refine FD_congr fs 0 _ _ (fun j f hfj hwf => ?_) rfl
      simp only [Nat.zero_add]
      by_cases hji : j = i
      · subst hji; rw [hx] at hfj; cases hfj; rw [hw] at hwf; cases hwf
      · simp [hji]
  have hrun := hf.run e a (UD U fs D) (fun t ht => by rw [← agreeS t ht]; exact hv.slots t) (by rw [← honly]; exact hv.mem.drop (only_sub _ _)) hfresh
  -- behind the operation
  have fin : ∀ z w', Res C e (onlyM x.fp.R si.mem) (UD U fs D) x.nx x.nx' x.v (over x.fp.W x.m (onlyM x.fp.R si.mem)) z w' → K (a.put o'.dst z) w' := by
    rintro z w' ⟨e', rfl, hx', hm', hfr, hvz⟩
    rw [← honly] at hm' hfr
    obtain ⟨g1, g2⟩ := hv.mem.part hx' hm' hfr
    refine hK e' _ ⟨?_, ?_, ?_, ?_, hv.ext.trans hx', ?_⟩
    · cases o'.dst <;> exact hv.defers
    · cases hd : o'.dst <;> simp [Act.put, hv.size]
    · intro t
      rw [hafterS t, hf.dst]
      exact put_slots (fun i => (hv.slots i).ext hx') hv.size hf.lt hvz t
    · rw [hafterM]
      refine g1.widen fun b hb => ?_
      rcases hb with (h | ⟨j, y, h1, h2, h3⟩) | h
      · exact .inl h
      · exact .inr ⟨j, y, by simp [h1], h2, h3⟩
      · exact .inr ⟨i, x, by simp, hx, h⟩
    · rw [hafterM]; exact hv.frm.trans g2
  unfold wpOp
  rw [ho]
  simp only
  unfold GRun at hrun
  split
  · rename_i hw
    rw [if_pos hw] at hrun
    exact .inl (OpRun.wp (hrun.mono fin))
  · rename_i hw
    rw [if_neg hw] at hrun
    exact fin _ _ hrun

theorem count_set : ∀ (l : List Bool) (i : Nat), l[i]? = some false → (l.set i true).count false + 1 = l.count false
  | [], i, h => by simp at h
  | b :: l, 0, h => by simp at h; subst h; simp
  | b :: l, i + 1, h => by
    have := count_set l i (by simpa using h)
    simp only [List.set_cons_succ, List.count_cons]
    omega
theorem any_ok (hU : free U s0.nx s1.nx) (hch : Chain P C n ops ops.toList s0 fs s1) (hp : Pairs ops fs) (hback : ∀ j, ∀ e ∈ edgesAt ops.toList j, e < j) {Q : Exit → Act → World → Prop}
    (hQ : ∀ e a D, (∀ j, j < ops.size → D j = true) → Inv C n U s0 fs e0 D e a → Q .normal a e.w) :
    ∀ (fuel : Nat) (listed : Array Bool) (e : Env) (a : Act), listed.size = ops.size → listed.toList.count false ≤ fuel → (∀ j, listed.getD j false = true → ∀ e ∈ edgesAt ops.toList j, listed.getD e false = true) →
      Inv C n U s0 fs e0 (fun j => listed.getD j false) e a → wpAny P .any ops Q fuel listed a e.w := by
  intro fuel
  have hnil : ∀ listed : Array Bool, listed.size = ops.size → Region.ready .any ops listed = [] → ∀ j, j < ops.size → listed.getD j false = true := by
    intro listed hsz hr j
    induction j using Nat.strongRecOn with
    | _ j ih =>
      intro hj
      cases hd : listed.getD j false with
      | true => rfl
      | false =>
        have : j ∈ Region.ready .any ops listed := mem_ready'.2 ⟨hj, by
          simp [Array.getD_eq_getD_getElem?, Array.getElem?_eq_getElem (show j < listed.size by omega)] at hd ⊢; exact hd, fun e he => ih e (hback j e he) (Nat.lt_trans (hback j e he) hj)⟩
        rw [hr] at this; cases this
  induction fuel with
  | zero =>
    intro listed e a hsz hc hD hv
    have hall : ∀ j, j < ops.size → listed.getD j false = true := by
      intro j hj
      have h0 : listed.toList.count false = 0 := by omega
      rw [List.count_eq_zero] at h0
      cases hd : listed.getD j false with
      | true => rfl
      | false =>
        exfalso; apply h0
        have hj' : j < listed.size := by omega
        simp [Array.getD_eq_getD_getElem?, Array.getElem?_eq_getElem hj'] at hd
        rw [← hd]; simp
    refine ⟨?_, hQ e a _ hall hv⟩
    cases hr : Region.ready .any ops listed with
    | nil => rfl
    | cons i r =>
      have : i ∈ Region.ready .any ops listed := by rw [hr]; simp
      obtain ⟨h1, h2, _⟩ := mem_ready'.1 this
      have := hall i h1
      have hi : i < listed.size := by omega
      simp [Array.getD_eq_getD_getElem?, Array.getElem?_eq_getElem hi] at h2 this
      rw [h2] at this; cases this
  | succ fuel ih =>
    intro listed e a hsz hc hD hv
    refine ⟨fun hr => hQ e a _ (hnil listed hsz hr) hv, fun i hi => ?_⟩
    obtain ⟨h1, h2, h3⟩ := mem_ready'.1 hi
    have hil : i < listed.size := by omega
    have hfalse : listed.getD i false = false := by
      simp [Array.getD_eq_getD_getElem?, Array.getElem?_eq_getElem hil] at h2 ⊢; exact h2
    have hset : ∀ j, (listed.setIfInBounds i true).getD j false = (listed.getD j false || decide (j = i)) := by
      intro j
      rw [Array.getD_eq_getD_getElem?, Array.getElem?_setIfInBounds, Array.getD_eq_getD_getElem?]
      by_cases hji : i = j
      · subst hji; simp [hil]
      · simp [hji]; intro he; exact absurd he.symm hji
    refine inv_step hU hch hp hD hfalse h3 (Array.getElem?_eq_getElem h1) hv fun e' a' hv' => ?_
    refine ih _ e' a' (by simp [hsz]) ?_ ?_ ?_
    · have hl : listed.toList[i]? = some false := by
        simp [Array.getD_eq_getD_getElem?, Array.getElem?_eq_getElem hil] at hfalse
        simp [hil, hfalse]
      have := count_set listed.toList i hl
      rw [Array.toList_setIfInBounds]
      omega
    · intro j hj e he
      rw [hset] at hj ⊢
      simp only [Bool.or_eq_true, decide_eq_true_eq] at hj ⊢
      rcases hj with hj | rfl
      · exact .inl (hD j hj e he)
      · exact .inl (h3 e he)
    · have : (fun j => (listed.setIfInBounds i true).getD j false) = fun j => listed.getD j false || decide (j = i) := funext hset
      rw [this]; exact hv'

theorem backB_ok : ∀ (l : List Oper) (i : Nat), backB i l = true → ∀ j o, l[j]? = some o → ∀ e ∈ onOf o.after.toList, e < i + j
  | [], _, _, j, o, h => by simp at h
  | p :: l, i, hb, 0, o, h => by
    simp at h; subst h
    simp [backB] at hb
    exact fun e he => by simpa using hb.1 e he
  | p :: l, i, hb, j + 1, o, h => by
    simp [backB] at hb
    intro e he
    have := backB_ok l (i + 1) hb.2 j o (by simpa using h) e he
    omega
theorem rowB_ok {all : List Oper} {j : Nat} {g : FP} : ∀ (l : List FP) (i : Nat), rowB all j g i l = true → ∀ k f, l[k]? = some f → i + k < j → apartB f g = true ∨ befB all 6 (i + k) j = true
  | [], _, _, k, f, h, _ => by simp at h
  | p :: l, i, hb, 0, f, h, hlt => by
    simp at h; subst h
    simp only [rowB, Bool.and_eq_true] at hb
    have hl : Nat.blt i j = true := by simpa using hlt
    have := hb.1
    rw [hl] at this
    simpa using this
  | p :: l, i, hb, k + 1, f, h, hlt => by
    simp only [rowB, Bool.and_eq_true] at hb
    have := rowB_ok l (i + 1) hb.2 k f (by simpa using h) (by omega)
    rwa [show i + 1 + k = i + (k + 1) by omega] at this
theorem allB_ok {all : List Oper} {fs : List FP} : ∀ (l : List FP) (j : Nat), allB all fs j l = true → ∀ k g, l[k]? = some g → rowB all (j + k) g 0 fs = true
  | [], _, _, k, g, h => by simp at h
  | p :: l, j, hb, 0, g, h => by
    simp at h; subst h
    simp only [allB, Bool.and_eq_true] at hb
    exact hb.1
  | p :: l, j, hb, k + 1, g, h => by
    simp only [allB, Bool.and_eq_true] at hb
    have := allB_ok l (j + 1) hb.2 k g (by simpa using h)
    rwa [show j + 1 + k = j + (k + 1) by omega] at this
theorem draw_ok (hdraw : P.follows .mixedOrders = true) (hch : Chain P C n ops ops.toList s0 fs s1) (hfine : drawFine ops.toList (fs.map (·.fp)) = true) {id : Nat} {e : Env} {a : Act} (hU : free U s0.nx s1.nx) (hf : Fit C n U e s0 a) {Q : Exit → Act → World → Prop}
    (hQ : ∀ e' a', Fit C n (taken U s0.nx s1.nx) e' s1 a' → Ext e e' → Frm e s0.mem e' s1.mem → Q .normal a' e'.w) : (Code.region id ops true).wp P Q a e.w := by
  simp only [drawFine, Bool.and_eq_true] at hfine
  obtain ⟨hb, ha⟩ := hfine
  obtain ⟨hlen, hat, hS, hM, hnx, hnx'⟩ := chain_at _ _ _ _ hch
  have hp : Pairs ops fs := by
    intro i j f g hij hfi hgj
    have h1 := allB_ok _ 0 ha j g.fp (by simp [hgj])
    simp only [Nat.zero_add] at h1
    have h2 := rowB_ok _ 0 h1 i f.fp (by simp [hfi]) (by omega)
    simpa using h2
  have hback : ∀ j, ∀ e ∈ edgesAt ops.toList j, e < j := by
    intro j e he
    cases ho : ops[j]? with
    | none => rw [edgesAt_none ho] at he; cases he
    | some o =>
      rw [edgesAt_get ho] at he
      have := backB_ok ops.toList 0 hb j o (by simpa using ho) e he
      omega
  refine wp_region_any hdraw ?_
  -- the draw itself turns nothing
  have hbel : Blw e.w.heap.size e.w { e.w with drawn := e.w.drawn + 1 } := .of ⟨rfl, rfl, rfl, Nat.le_refl _, fun _ _ => rfl⟩
  obtain ⟨hm1, hx1⟩ := hf.mem.grow' hbel
  have hfr1 : Frm e s0.mem { e with w := { e.w with drawn := e.w.drawn + 1 } } s0.mem := ⟨fun _ _ _ => rfl, Nat.le_refl _, fun _ h => .inl h, fun _ h => .inl h⟩
  have hD0 : ∀ j, (Array.replicate ops.size false).getD j false = false := by
    intro j
    simp only [Array.getD_eq_getD_getElem?, Array.getElem?_replicate]
    split <;> rfl
  refine any_ok (e0 := e) (U := U) hU hch hp hback ?_ ops.size _ { e with w := { e.w with drawn := e.w.drawn + 1 } } a (by simp) (by simp) (fun j hj => by rw [hD0] at hj; cases hj) ?_
  · intro e' a' D hall hv
    have hDall : ∀ j x, fs[j]? = some x → D (0 + j) = true := fun j x hx => by
      have hj := (List.getElem?_eq_some_iff.1 hx).1
      rw [Nat.zero_add]
      refine hall j ?_
      rw [hlen] at hj; simpa using hj
    have hSe : ∀ t, FD D wS vS 0 fs s0.slots t = s1.slots t := fun t => by
      rw [hS t]; exact FD_congr fs 0 _ _ (fun j x hx _ => hDall j x hx) rfl
    have hMe : FD D wM vM 0 fs s0.mem = s1.mem := funext fun b => by
      rw [hM b]; exact FD_congr fs 0 _ _ (fun j x hx _ => hDall j x hx) rfl
    refine hQ e' a' ⟨hv.defers, hv.size, fun t => by rw [← hSe t]; exact hv.slots t, ?_⟩ hv.ext (by rw [← hMe]; exact hv.frm)
    rw [← hMe]
    refine hv.mem.widen fun b hb => ?_
    rcases hb with h | ⟨i, x, _, hx, h0, h⟩
    · exact .inl h
    · have := hnx' i x hx
      obtain ⟨_, si, _, hfx, _, _, hle, _⟩ := hat i x hx
      have := hfx.nx
      exact .inr ⟨by omega, by omega⟩
  · have hSe : ∀ t, FD (fun j => (Array.replicate ops.size false).getD j false) wS vS 0 fs s0.slots t = s0.slots t := fun t => FD_none fs 0 _ (fun j x _ _ => hD0 _)
    have hMe : FD (fun j => (Array.replicate ops.size false).getD j false) wM vM 0 fs s0.mem = s0.mem := funext fun b => FD_none fs 0 _ (fun j x _ _ => hD0 _)
    refine ⟨hf.defers, hf.size, fun t => by rw [hSe t]; exact (hf.slots t).ext hx1, ?_, hx1, ?_⟩
    · rw [hMe]; exact hm1.widen fun b hb => .inl hb
    · rw [hMe]; exact hfr1
end
end Go.Co
end
